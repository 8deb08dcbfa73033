/- A region whose order is open, each operation told once: whatever order is drawn, every operation finds what it leans on. No condition. -/
import Derived.Orders
import Derived.RegionTactic
import Derived.Test.YtbpgodkdbbiadaaDoorBase
namespace Go.Proofs.YtbpgodkdbbiadaaDoor
open Go.RowKit

section
variable {P : Program} {ops : Array Oper} {Q : Exit → Act → World → Prop}

/-- What an operation finds in a temporary: that of an operation ahead of it, or what was there at the region's start. -/
structure Finds (ops : Array Oper) (Φ : Nat → Value → World → Prop) (a0 : Act) (i : Nat) (o : Oper) (a : Act) (w : World) : Prop where
  defers : a.defers = a0.defers
  size : a.tmps.size = a0.tmps.size
  dep : ∀ k ok d, ops[k]? = some ok → ok.dst = some d → d ∈ o.looksAt ops → o.after.any (fun e => Region.binds .any e && e.on == k) = true → ∃ v, a.tmps[d]? = some v ∧ Φ k v w
  old : ∀ d, d ∈ o.looksAt ops → (∀ k ok, ops[k]? = some ok → ok.dst = some d → k ≠ i → o.after.any (fun e => Region.binds .any e && e.on == k) = false) → a.tmps[d]? = a0.tmps[d]?

/-- The state at any time. -/
structure Ssa (ops : Array Oper) (Φ : Nat → Value → World → Prop) (a0 : Act) (listed : Array Bool) (a : Act) (w : World) : Prop where
  defers : a.defers = a0.defers
  size : a.tmps.size = a0.tmps.size
  new : ∀ i o, ops[i]? = some o → listed.getD i false = true → (∃ v, (∀ d, o.dst = some d → a.tmps[d]? = some v) ∧ Φ i v w)
  old : ∀ t, (∀ i o, ops[i]? = some o → listed.getD i false = true → o.dst ≠ some t) → a.tmps[t]? = a0.tmps[t]?
  closed : ∀ i o e, ops[i]? = some o → listed.getD i false = true → e ∈ o.after → Region.binds .any e = true → listed.getD e.on false = true

/-- Each temporary is written once, and whoever looks at one that is written by another waits for it, or is waited for. -/
def ssaB (ops : Array Oper) (n : Nat) : Bool :=
  (List.range ops.size).all fun i => match ops[i]? with
    | none => true
    | some oi =>
      oi.after.all (fun e => !Region.binds .any e || e.on < i) &&
      (match oi.dst with | some d => d < n | none => true) &&
      (List.range ops.size).all fun k => (k == i) || match ops[k]? with
        | none => true
        | some ok => match ok.dst with
          | none => true
          | some d => oi.dst != some d &&
            (!(oi.looksAt ops).contains d || oi.after.any (fun e => Region.binds .any e && e.on == k) || ok.after.any (fun e => Region.binds .any e && e.on == i))

def unlisted (ops : Array Oper) (listed : Array Bool) : Nat := ((List.range ops.size).filter fun i => !listed.getD i false).length

theorem exists_least {p : Nat → Prop} (h : ∃ n, p n) : ∃ n, p n ∧ ∀ m, m < n → ¬ p m := by
  obtain ⟨n, hn⟩ := h
  induction n using Nat.strongRecOn with
  | ind n ih =>
    by_cases hm : ∃ m, m < n ∧ p m
    · obtain ⟨m, h1, h2⟩ := hm
      exact ih m h1 h2
    · exact ⟨n, hn, fun m h1 h2 => hm ⟨m, h1, h2⟩⟩

theorem getD_true_false (l : Array Bool) (i : Nat) (h : i < l.size) : l.getD i true = l.getD i false := by simp [h]

theorem wpAny_ssa (a0 : Act) (w0 : World) (Φ : Nat → Value → World → Prop) (G : World → World → Prop) (htrans : ∀ a b c, G a b → G b c → G a c)
    (hΦ : ∀ i v w w', Φ i v w → G w w' → Φ i v w') (hB : ssaB ops a0.tmps.size = true)
    (hstep : ∀ i o, ops[i]? = some o → ∀ a w, G w0 w → Finds ops Φ a0 i o a w → wpOp P ops Q i (fun a' w' => ∃ v, a' = a.put o.dst v ∧ Φ i v w' ∧ G w w') a w)
    (hend : ∀ a w, G w0 w → Ssa ops Φ a0 (Array.replicate ops.size true) a w → Q .normal a w) :
    ∀ (fuel : Nat) (listed : Array Bool) (a : Act) (w : World), listed.size = ops.size → unlisted ops listed = fuel → G w0 w → Ssa ops Φ a0 listed a w → wpAny P .any ops Q fuel listed a w := by
  have hb : ∀ i oi, ops[i]? = some oi → (∀ e ∈ oi.after, Region.binds .any e = true → e.on < i) ∧ (∀ d, oi.dst = some d → d < a0.tmps.size) ∧
      (∀ k ok d, k ≠ i → ops[k]? = some ok → ok.dst = some d → oi.dst ≠ some d ∧ (d ∈ oi.looksAt ops → oi.after.any (fun e => Region.binds .any e && e.on == k) = true ∨ ok.after.any (fun e => Region.binds .any e && e.on == i) = true)) := by
    intro i oi hi
    have hlt : i < ops.size := by
      rcases Nat.lt_or_ge i ops.size with h | h
      · exact h
      · rw [Array.getElem?_eq_none h] at hi; cases hi
    have h1 := List.all_eq_true.1 hB i (by simpa using hlt)
    rw [hi] at h1
    simp only [Bool.and_eq_true] at h1
    obtain ⟨⟨h2, h3⟩, h4⟩ := h1
    refine ⟨fun e he => ?_, fun d hd => ?_, fun k ok d hk hok hd => ?_⟩
    · have h5 := (Array.all_eq_true'.1 h2) e he
      intro hbe
      simpa [hbe] using h5
    · rw [hd] at h3; simpa using h3
    · have hlt' : k < ops.size := by
        rcases Nat.lt_or_ge k ops.size with h | h
        · exact h
        · rw [Array.getElem?_eq_none h] at hok; cases hok
      have h5 := List.all_eq_true.1 h4 k (by simpa using hlt')
      rw [hok] at h5
      simp only [hd, Bool.or_eq_true, beq_iff_eq, hk, false_or, Bool.and_eq_true, bne_iff_ne, ne_eq, Bool.not_eq_true'] at h5
      refine ⟨h5.1, fun hm => ?_⟩
      rcases h5.2 with (h6 | h6) | h6
      · rw [List.contains_iff_mem.2 hm] at h6; cases h6
      · exact .inl h6
      · exact .inr h6
  intro fuel
  induction fuel with
  | zero =>
    intro listed a w hs hu hG hI
    have hall : ∀ i, i < ops.size → listed.getD i false = true := by
      intro i hi
      have h0 : (List.range ops.size).filter (fun i => !listed.getD i false) = [] := List.eq_nil_of_length_eq_zero hu
      have := List.filter_eq_nil_iff.1 h0 i (by simpa using hi)
      simpa using this
    have hl : listed = Array.replicate ops.size true := by
      apply Array.ext
      · simp [hs]
      · intro i h1 h2
        have := hall i (by omega)
        simp [h1] at this
        simp [this]
    refine ⟨?_, hend a w hG (hl ▸ hI)⟩
    unfold Region.ready
    rw [List.filter_eq_nil_iff]
    intro i hi
    have := hall i (by simpa using hi)
    rw [← getD_true_false listed i (by simp at hi; omega)] at this
    simp [this]
  | succ fuel ih =>
    intro listed a w hs hu hG hI
    refine ⟨fun hr => ?_, fun i hi => ?_⟩
    · exfalso
      -- the least that is not listed may come up
      have hex : ∃ i, i < ops.size ∧ listed.getD i false = false := by
        have h0 : (List.range ops.size).filter (fun i => !listed.getD i false) ≠ [] := by
          intro h; unfold unlisted at hu; rw [h] at hu; simp at hu
        obtain ⟨i, hi⟩ := List.exists_mem_of_ne_nil _ h0
        rw [List.mem_filter] at hi
        exact ⟨i, by simpa using hi.1, by simpa using hi.2⟩
      obtain ⟨i, ⟨hi1, hi2⟩, hmin⟩ := exists_least hex
      have : i ∈ Region.ready .any ops listed := by
        rw [mem_ready]
        refine ⟨by rw [getD_true_false listed i (by omega)]; exact hi2, _, Array.getElem?_eq_getElem hi1, fun e he hbe => ?_⟩
        have h1 := (hb i _ (Array.getElem?_eq_getElem hi1)).1 e he hbe
        by_cases h2 : listed.getD e.on false = true
        · exact h2
        · exact absurd ⟨by omega, by simpa using h2⟩ (hmin e.on h1)
      rw [hr] at this
      cases this
    · obtain ⟨hun, oi, hoi, hall⟩ := mem_ready.1 hi
      have hlt : i < ops.size := by
        rcases Nat.lt_or_ge i ops.size with h | h
        · exact h
        · rw [Array.getElem?_eq_none h] at hoi; cases hoi
      rw [getD_true_false listed i (by omega)] at hun
      obtain ⟨b1, b2, b3⟩ := hb i oi hoi
      have hset : ∀ k, (listed.setIfInBounds i true).getD k false = (if k = i then true else listed.getD k false) := by
        intro k
        by_cases hk : k = i
        · subst hk; simp [Array.getD_eq_getD_getElem?, Array.getElem?_setIfInBounds_self_of_lt (by omega : k < listed.size)]
        · simp [Array.getD_eq_getD_getElem?, Array.getElem?_setIfInBounds_ne (Ne.symm hk), hk]
      have hdep : ∀ k, oi.after.any (fun e => Region.binds .any e && e.on == k) = true → listed.getD k false = true := by
        intro k hk
        rw [Array.any_eq_true'] at hk
        obtain ⟨e, he, hek⟩ := hk
        simp only [Bool.and_eq_true, beq_iff_eq] at hek
        rw [← hek.2]
        exact hall e he hek.1
      have hF : Finds ops Φ a0 i oi a w := by
        refine ⟨hI.defers, hI.size, fun k ok d hok hd _ hk => ?_, fun d hd hno => ?_⟩
        · obtain ⟨v, hv, hφ⟩ := hI.new k ok hok (hdep k hk)
          exact ⟨v, hv d hd, hφ⟩
        · apply hI.old
          intro k ok hok hlk hkd
          by_cases hki : k = i
          · subst hki; rw [hun] at hlk; cases hlk
          · rcases (b3 k ok d hki hok hkd).2 hd with h1 | h1
            · rw [hno k ok hok hkd hki] at h1; cases h1
            · rw [Array.any_eq_true'] at h1
              obtain ⟨e, he, hek⟩ := h1
              simp only [Bool.and_eq_true, beq_iff_eq] at hek
              have := hI.closed k ok e hok hlk he hek.1
              rw [hek.2, hun] at this
              cases this
      refine wpOp_mono (fun a' w' h => ?_) (hstep i oi hoi a w hG hF)
      obtain ⟨v, rfl, hφ, hg⟩ := h
      have hput : ∀ t, oi.dst ≠ some t → (a.put oi.dst v).tmps[t]? = a.tmps[t]? := by
        intro t ht
        cases hd : oi.dst with
        | none => rfl
        | some d =>
          have hne : d ≠ t := fun e => ht (by rw [hd, e])
          simp [Act.put, Array.getElem?_setIfInBounds_ne hne]
      refine ih _ _ _ (by simp [hs]) ?_ (htrans _ _ _ hG hg) ⟨?_, ?_, ?_, ?_, ?_⟩
      · -- one fewer
        unfold unlisted at hu ⊢
        have e1 : (List.range ops.size).filter (fun k => !(listed.setIfInBounds i true).getD k false) = ((List.range ops.size).filter fun k => !listed.getD k false).erase i := by
          rw [List.Nodup.erase_eq_filter (List.Pairwise.filter _ List.nodup_range), List.filter_filter]
          apply List.filter_congr
          intro k _
          rw [hset k]
          by_cases hk : k = i
          · simp [hk]
          · simp [hk]
        rw [e1, List.length_erase_of_mem (by rw [List.mem_filter]; exact ⟨by simpa using hlt, by simp [hun]⟩), hu]
        omega
      · cases hd : oi.dst <;> simp [Act.put, hI.defers]
      · cases hd : oi.dst <;> simp [Act.put, hI.size]
      · intro k ok hok hlk
        rw [hset k] at hlk
        by_cases hki : k = i
        · subst hki
          rw [hoi] at hok; injection hok with hok; subst hok
          refine ⟨v, fun d hd => ?_, hφ⟩
          have := b2 d hd
          rw [hd]
          simp [Act.put, Array.getElem?_setIfInBounds_self_of_lt (by rw [hI.size]; exact this : d < a.tmps.size)]
        · rw [if_neg hki] at hlk
          obtain ⟨u, hu1, hu2⟩ := hI.new k ok hok hlk
          refine ⟨u, fun d hd => ?_, hΦ _ _ _ _ hu2 hg⟩
          rw [hput d (b3 k ok d hki hok hd).1]
          exact hu1 d hd
      · intro t ht
        have h1 : oi.dst ≠ some t := ht i oi hoi (by rw [hset i]; simp)
        rw [hput t h1]
        apply hI.old
        intro k ok hok hlk
        exact ht k ok hok (by rw [hset k]; split <;> simp_all)
      · intro k ok e hok hlk he hbe
        rw [hset k] at hlk
        rw [hset e.on]
        by_cases hki : k = i
        · subst hki
          rw [hoi] at hok; injection hok with hok; subst hok
          split
          · rfl
          · exact hall e he hbe
        · rw [if_neg hki] at hlk
          split
          · rfl
          · exact hI.closed k ok e hok hlk he hbe

/-- The frame with all that was yielded, in the order of the text. -/
def putAll (vs : Nat → Value) : Nat → List Oper → Act → Act
  | _, [], a => a
  | i, o :: os, a => putAll vs (i + 1) os (a.put o.dst (vs i))

theorem put_get (a : Act) (dst : Option Tmp) (v : Value) (t : Nat) (h : dst ≠ some t) : (a.put dst v).tmps[t]? = a.tmps[t]? := by
  cases dst with
  | none => rfl
  | some d =>
    have hne : d ≠ t := fun e => h (by rw [e])
    simp [Act.put, Array.getElem?_setIfInBounds_ne hne]
theorem put_size (a : Act) (dst : Option Tmp) (v : Value) : (a.put dst v).tmps.size = a.tmps.size := by cases dst <;> simp [Act.put]
theorem put_defers_ (a : Act) (dst : Option Tmp) (v : Value) : (a.put dst v).defers = a.defers := by cases dst <;> rfl
theorem put_at (a : Act) (d : Tmp) (v : Value) (h : d < a.tmps.size) : (a.put (some d) v).tmps[d]? = some v := by simp [Act.put, h]

theorem putAll_size (vs : Nat → Value) : ∀ (os : List Oper) (i : Nat) (a : Act), (putAll vs i os a).tmps.size = a.tmps.size
  | [], _, _ => rfl
  | o :: os, i, a => by rw [putAll, putAll_size vs os, put_size]
theorem putAll_defers (vs : Nat → Value) : ∀ (os : List Oper) (i : Nat) (a : Act), (putAll vs i os a).defers = a.defers
  | [], _, _ => rfl
  | o :: os, i, a => by rw [putAll, putAll_defers vs os, put_defers_]
theorem putAll_old (vs : Nat → Value) (t : Nat) : ∀ (os : List Oper) (i : Nat) (a : Act), (∀ o ∈ os, o.dst ≠ some t) → (putAll vs i os a).tmps[t]? = a.tmps[t]?
  | [], _, _, _ => rfl
  | o :: os, i, a, h => by rw [putAll, putAll_old vs t os _ _ fun o' h' => h o' (by simp [h']), put_get _ _ _ _ (h o (by simp))]
theorem putAll_new (vs : Nat → Value) (t : Nat) : ∀ (os : List Oper) (i : Nat) (a : Act) (j : Nat) (o : Oper), os[j]? = some o → o.dst = some t → t < a.tmps.size →
    (∀ k o', os[k]? = some o' → o'.dst = some t → k = j) → (putAll vs i os a).tmps[t]? = some (vs (i + j))
  | [], _, _, j, o, h, _, _, _ => by simp at h
  | o1 :: os, i, a, 0, o, h, hd, ht, hu => by
    simp at h; subst h
    rw [putAll, putAll_old vs t os _ _ fun (o' : Oper) h' e => ?_, hd, put_at _ _ _ ht]
    · rfl
    · obtain ⟨k, hk⟩ := List.getElem?_of_mem h'
      have := hu (k + 1) o' (by simpa using hk) e
      omega
  | o1 :: os, i, a, j + 1, o, h, hd, ht, hu => by
    rw [putAll, putAll_new vs t os (i + 1) _ j o (by simpa using h) hd (by rw [put_size]; exact ht) fun k o' hk hd' => ?_]
    · congr 2; omega
    · have := hu (k + 1) o' (by simpa using hk) hd'
      omega

/-- **A REGION THAT DRAWS ITS ORDER, EACH OPERATION TOLD ONCE.** -/
theorem wp_region_ssa {id : Nat} {a0 : Act} {w0 : World} (hm : P.follows .mixedOrders = true) (Φ : Nat → Value → World → Prop) (G : World → World → Prop) (htrans : ∀ a b c, G a b → G b c → G a c)
    (hΦ : ∀ i v w w', Φ i v w → G w w' → Φ i v w') (hB : ssaB ops a0.tmps.size = true) (hG : G w0.drew w0.drew)
    (hstep : ∀ i o, ops[i]? = some o → ∀ a w, G w0.drew w → Finds ops Φ a0 i o a w → wpOp P ops Q i (fun a' w' => ∃ v, a' = a.put o.dst v ∧ Φ i v w' ∧ G w w') a w)
    (hend : ∀ (vs : Nat → Value) w, G w0.drew w → (∀ i, i < ops.size → Φ i (vs i) w) → Q .normal (putAll vs 0 ops.toList a0) w) : (Code.region id ops true).wp P Q a0 w0 := by
  refine wp_region_any hm (wpAny_ssa a0 w0.drew Φ G htrans hΦ hB hstep (fun a w hg hI => ?_) ops.size (Array.replicate ops.size false) a0 w0.drew (by simp) ?_ hG ⟨rfl, rfl, ?_, fun _ _ => rfl, ?_⟩)
  · have hch : ∀ i, ∃ v, i < ops.size → (∀ d, ((ops[i]?).bind (fun o : Oper => o.dst)) = some d → a.tmps[d]? = some v) ∧ Φ i v w := by
      intro i
      by_cases hi : i < ops.size
      · obtain ⟨v, h1, h2⟩ := hI.new i _ (Array.getElem?_eq_getElem hi) (by simp [hi])
        exact ⟨v, fun _ => ⟨fun d hd => h1 d (by simpa [hi] using hd), h2⟩⟩
      · exact ⟨undef, fun h => absurd h hi⟩
    have hvs := fun i => Classical.choose_spec (hch i)
    have hend' := hend (fun i => Classical.choose (hch i)) w hg fun i hi => (hvs i hi).2
    have ha : putAll (fun i => Classical.choose (hch i)) 0 ops.toList a0 = a := by
      have h1 := putAll_defers (fun i => Classical.choose (hch i)) ops.toList 0 a0
      have h2 := putAll_size (fun i => Classical.choose (hch i)) ops.toList 0 a0
      have h3 : (putAll (fun i => Classical.choose (hch i)) 0 ops.toList a0).tmps = a.tmps := by
        apply Array.ext_getElem?
        intro t
        by_cases hex : ∃ (j : Nat) (o : Oper), ops[j]? = some o ∧ o.dst = some t
        · obtain ⟨j, o, hj, hd⟩ := hex
          have hlt : j < ops.size := by
            rcases Nat.lt_or_ge j ops.size with h | h
            · exact h
            · rw [Array.getElem?_eq_none h] at hj; cases hj
          have hb := List.all_eq_true.1 hB j (by simpa using hlt)
          rw [hj] at hb
          simp only [Bool.and_eq_true, hd, decide_eq_true_eq] at hb
          rw [putAll_new _ t ops.toList 0 a0 j o (by simpa using hj) hd hb.1.2 fun k o' hk hd' => ?_, (hvs j hlt).1 t (by rw [hj]; exact hd)]
          · simp
          · rcases Nat.decEq k j with hkj | hkj
            · exfalso
              have hk' : ops[k]? = some o' := by simpa using hk
              have hltk : k < ops.size := by
                rcases Nat.lt_or_ge k ops.size with h | h
                · exact h
                · rw [Array.getElem?_eq_none h] at hk'; cases hk'
              have h5 := List.all_eq_true.1 hb.2 k (by simpa using hltk)
              rw [hk'] at h5
              simp [hkj, hd'] at h5
            · exact hkj
        · rw [putAll_old _ t ops.toList 0 a0 (fun (o : Oper) ho e => hex (by obtain ⟨j, hj⟩ := List.getElem?_of_mem ho; exact ⟨j, o, by simpa using hj, e⟩)), hI.old t fun i o hi _ e => hex ⟨i, o, hi, e⟩]
      have h4 := hI.defers
      cases a
      cases hq : putAll (fun i => Classical.choose (hch i)) 0 ops.toList a0
      rw [hq] at h1 h3
      simp only at h1 h3 h4
      rw [h1, h3, h4]
    rw [← ha]
    exact hend'
  · unfold unlisted
    rw [List.filter_eq_self.2]
    · simp
    · intro i hi
      simp only [List.mem_range] at hi
      simp [hi]
  · intro i o hi hl
    exfalso
    rw [Array.getD_eq_getD_getElem?, Array.getElem?_replicate] at hl
    split at hl <;> simp at hl
  · intro i o e hi hl
    exfalso
    rw [Array.getD_eq_getD_getElem?, Array.getElem?_replicate] at hl
    split at hl <;> simp at hl

/-- All operations of a list, each at its number. -/
def AllFrom (S : Nat → Oper → Prop) : Nat → List Oper → Prop
  | _, [] => True
  | i, o :: os => S i o ∧ AllFrom S (i + 1) os
theorem allFrom_get {S : Nat → Oper → Prop} : ∀ (os : List Oper) (i : Nat), AllFrom S i os → ∀ j o, os[j]? = some o → S (i + j) o
  | [], _, _, j, o, h => by simp at h
  | o1 :: os, i, h, 0, o, hj => by simp at hj; subst hj; exact h.1
  | o1 :: os, i, h, j + 1, o, hj => by
    have := allFrom_get os (i + 1) h.2 j o (by simpa using hj)
    rwa [show i + 1 + j = i + (j + 1) by omega] at this
theorem ops_all {ops : Array Oper} {S : Nat → Oper → Prop} (h : AllFrom S 0 ops.toList) : ∀ i o, ops[i]? = some o → S i o := fun i o hi => by
  have := allFrom_get ops.toList 0 h i o (by simpa using hi)
  simpa using this

theorem Finds.dep_ {Φ : Nat → Value → World → Prop} {a0 a : Act} {i : Nat} {o : Oper} {w : World} (h : Finds ops Φ a0 i o a w) (k d : Nat)
    (hk : (ops[k]?).bind (fun o : Oper => o.dst) = some d) (hl : (o.looksAt ops).contains d = true) (ha : o.after.any (fun e => Region.binds .any e && e.on == k) = true) : ∃ v, a.eval (.tmp d) = v ∧ Φ k v w := by
  cases hk' : ops[k]? with
  | none => rw [hk'] at hk; cases hk
  | some ok =>
    rw [hk'] at hk
    obtain ⟨v, h1, h2⟩ := h.dep k ok d hk' hk (by simpa using hl) ha
    exact ⟨v, by simp [Act.eval, h1], h2⟩
theorem Finds.old_ {Φ : Nat → Value → World → Prop} {a0 a : Act} {i : Nat} {o : Oper} {w : World} (h : Finds ops Φ a0 i o a w) (d : Nat) (hl : (o.looksAt ops).contains d = true)
    (hno : ((List.range ops.size).all fun k => (match ops[k]? with | some ok => ok.dst != some d | none => true) || k == i || !(o.after.any (fun e => Region.binds .any e && e.on == k))) = true) :
    a.eval (.tmp d) = a0.eval (.tmp d) := by
  have := h.old d (by simpa using hl) fun k ok hk hd hki => by
    have hlt : k < ops.size := by
      rcases Nat.lt_or_ge k ops.size with h | h
      · exact h
      · rw [Array.getElem?_eq_none h] at hk; cases hk
    have h5 := List.all_eq_true.1 hno k (by simpa using hlt)
    rw [hk] at h5
    simp only [hd, bne_self_eq_false, Bool.false_or, Bool.or_eq_true, beq_iff_eq, hki, false_or, Bool.not_eq_true'] at h5
    exact h5
  simp [Act.eval, this]

theorem ssa_value {Φ : Nat → Value → World → Prop} {G : World → World → Prop} {i : Nat} {o : Oper} {a : Act} {w w' : World} (hi : ops[i]? = some o) (hg : o.guard = none) (v : Value)
    (hrun : (execOp a.eval o).run P w = .ok (.value v) w') (hφ : Φ i v w') (hG : G w w') : wpOp P ops Q i (fun a' w' => ∃ v, a' = a.put o.dst v ∧ Φ i v w' ∧ G w w') a w := by
  unfold wpOp
  simp only [hi]
  have hw : Region.wanted o (yielded ops a.tmps) = true := by simp [Region.wanted, hg]
  simp only [hw, if_true, Oper.wp, hrun, Oper.upon]
  exact .inl ⟨v, rfl, hφ, hG⟩
theorem ssa_wp {Φ : Nat → Value → World → Prop} {G : World → World → Prop} {i : Nat} {o : Oper} {a : Act} {w : World} (hi : ops[i]? = some o) (hg : o.guard = none)
    (h : o.wp P a w (fun a' w' => ∃ v, a' = a.put o.dst v ∧ Φ i v w' ∧ G w w') Q) : wpOp P ops Q i (fun a' w' => ∃ v, a' = a.put o.dst v ∧ Φ i v w' ∧ G w w') a w := by
  unfold wpOp
  simp only [hi]
  have hw : Region.wanted o (yielded ops a.tmps) = true := by simp [Region.wanted, hg]
  simp only [hw, if_true]
  exact .inl h
end
section
variable {P : Program} {ops : Array Oper} {Q : Exit → Act → World → Prop}
/-- A value that is known. -/
def IsV (x : Value) : Value → World → Prop := fun v _ => v = x
/-- Nothing is told. -/
def AnyV : Value → World → Prop := fun _ _ => True
/-- One operation's step, its yield told by the list L. -/
def StepL (P : Program) (ops : Array Oper) (Q : Exit → Act → World → Prop) (a0 : Act) (w0 : World) (G : World → World → Prop) (L : List (Value → World → Prop)) (i : Nat) (o : Oper) : Prop :=
  ∀ a w, G w0 w → Finds ops (fun i => L.getD i AnyV) a0 i o a w → wpOp P ops Q i (fun a' w' => ∃ v, a' = a.put o.dst v ∧ (L.getD i AnyV) v w' ∧ G w w') a w
theorem wp_region_ssaL {id : Nat} {a0 : Act} {w0 : World} (hm : P.follows .mixedOrders = true) (L : List (Value → World → Prop)) (hB : ssaB ops a0.tmps.size = true)
    (hL : ∀ φ ∈ L, ∀ v w w', φ v w → Gr w w' → φ v w')
    (hstep : AllFrom (StepL P ops Q a0 w0.drew Gr L) 0 ops.toList)
    (hend : ∀ (vs : Nat → Value) w, Gr w0.drew w → AllFrom (fun i _ => (L.getD i AnyV) (vs i) w) 0 ops.toList → Q .normal (putAll vs 0 ops.toList a0) w) : (Code.region id ops true).wp P Q a0 w0 := by
  refine wp_region_ssa hm (fun i => L.getD i AnyV) Gr (fun _ _ _ => Gr.trans) (fun i v w w' h hg => ?_) hB (Gr.refl _) (fun i o hi a w => ops_all hstep i o hi a w) (fun vs w hg h => hend vs w hg ?_)
  · rcases Nat.lt_or_ge i L.length with hlt | hge
    · simp only [List.getD_eq_getElem?_getD, List.getElem?_eq_getElem hlt, Option.getD_some] at h ⊢
      exact hL _ (List.getElem_mem hlt) v w w' h hg
    · simp only [List.getD_eq_getElem?_getD, List.getElem?_eq_none hge, Option.getD_none] at h ⊢
      exact trivial
  · have hall : ∀ (os : List Oper) (k : Nat), k + os.length ≤ ops.size → AllFrom (fun i _ => (L.getD i AnyV) (vs i) w) k os := by
      intro os
      induction os with
      | nil => intro k _; exact trivial
      | cons o os ih => intro k hk; simp at hk; exact ⟨h k (by omega), ih (k + 1) (by omega)⟩
    exact hall _ 0 (by simp)
theorem ssa_pure {L : List (Value → World → Prop)} {i : Nat} {o : Oper} {a : Act} {w : World} (hi : ops[i]? = some o) (hg : o.guard = none) (x : Value) (hφ : L.getD i AnyV = IsV x)
    (hrun : (execOp a.eval o).run P w = .ok (.value x) w) : wpOp P ops Q i (fun a' w' => ∃ v, a' = a.put o.dst v ∧ (L.getD i AnyV) v w' ∧ Gr w w') a w :=
  ssa_value (Φ := fun i => L.getD i AnyV) hi hg x hrun (by show (L.getD i AnyV) x w; rw [hφ]; rfl) (Gr.refl _)
theorem run_move {ev : Operand → Value} {x : Operand} {d : Option Tmp} {t : TypeId} {p : String} {af : Array Edge} {g : Option (Nat × Bool)} {v : Value} {w : World} (h : ev x = v) :
    (execOp ev ⟨d, .move x, t, p, af, g⟩).run P w = .ok (.value v) w := by subst h; simp [execOp]
theorem run_assign {ev : Operand → Value} {x : Operand} {d : Option Tmp} {t : TypeId} {p : String} {af : Array Edge} {g : Option (Nat × Bool)} {v : Value} {w : World} (h : ev x = v) :
    (execOp ev ⟨d, .assign x, t, p, af, g⟩).run P w = .ok (.value v) w := by subst h; simp [execOp]
theorem run_len_slice {ev : Operand → Value} {x : Operand} {d : Option Tmp} {t T : TypeId} {p : String} {af : Array Edge} {g : Option (Nat × Bool)} {A : Option Addr} {n c : Nat} {w : World} {e : TypeId} (hT : P.underlying T = some (.slice e)) (h : ev x = .slice A n c) :
    (execOp ev ⟨d, .call { callee := .builtin .len, args := #[x], argTypes := #[T] }, t, p, af, g⟩).run P w = .ok (.value (.int .i64 n)) w := by
  simp [execOp, h, resolve, invoke, builtin, Builtin.len_, run_underlying hT, goInt]
theorem run_min_ {ev : Operand → Value} {x y : Operand} {d : Option Tmp} {t T U : TypeId} {p : String} {af : Array Edge} {g : Option (Nat × Bool)} {a b k : Int} {w : World} (h : ev x = .int .i64 a) (h2 : ev y = .int .i64 b) (hk : min a b = k) :
    (execOp ev ⟨d, .call { callee := .builtin .min, args := #[x, y], argTypes := #[T, U] }, t, p, af, g⟩).run P w = .ok (.value (.int .i64 k)) w := by
  subst hk
  simp [execOp, h, h2, resolve, invoke, builtin, Lib.run_min_ints]

/-- A new slice without room. -/
def NewV (base : Nat) (e : TypeId) (v : Value) (w : World) : Prop := ∃ g, v = .slice (some ⟨g, 0, none⟩) 0 0 ∧ w.ownsRow base e 1 v 0 []
/-- A copy of bytes. -/
def CopyV (base : Nat) (e : TypeId) (l : List UInt8) (v : Value) (w : World) : Prop := w.ownsRow base e 1 v l.length (u8s l)
theorem ssa_new {L : List (Value → World → Prop)} {i : Nat} {o : Oper} {a : Act} {w : World} (hi : ops[i]? = some o) (hg : o.guard = none) (base : Nat) (e : TypeId) (hφ : L.getD i AnyV = NewV base e)
    (hb : base ≤ w.heap.size) (hrun : (execOp a.eval o).run P w = .ok (.value (.slice (some ⟨w.heap.size, 0, none⟩) 0 0)) (w.alloc (.cells #[] e))) :
    wpOp P ops Q i (fun a' w' => ∃ v, a' = a.put o.dst v ∧ (L.getD i AnyV) v w' ∧ Gr w w') a w :=
  ssa_value (Φ := fun i => L.getD i AnyV) hi hg _ hrun (by show (L.getD i AnyV) _ _; rw [hφ]; exact ⟨_, rfl, World.ownsRow_lit w #[] 0 hb (by simp [maxLen]) rfl⟩) (Gr.alloc _ _)
theorem ssa_clip {L : List (Value → World → Prop)} {i : Nat} {o : Oper} {a : Act} {w : World} (hi : ops[i]? = some o) (hg : o.guard = none) (base : Nat) (l : List UInt8) (e : TypeId) (hφ : L.getD i AnyV = CopyV base e l)
    (s x : Operand) (t : TypeId) (ho : o.op = .call { callee := .builtin .append, args := #[s, x], argTypes := #[t, t] }) (ti : TypeInfo) (z : Value) (ht : P.underlying t = some (.slice e)) (hti : P.info? e = some ti) (hz : ti.zero = some z)
    (hsize : ti.size = 1) (hby : ti.bytes = 1) (hzs : z.cells.size = 1) (hs : ∃ v, a.eval s = v ∧ NewV base e v w) (A : Option Addr) (m c : Nat) (hx : a.eval x = .slice A m c) (hr : Rd w A m (u8s l)) (hm : m ≤ 1000000000) (hb : base ≤ w.heap.size) :
    wpOp P ops Q i (fun a' w' => ∃ v, a' = a.put o.dst v ∧ (L.getD i AnyV) v w' ∧ Gr w w') a w := by
  obtain ⟨_, e1, g, rfl, hown⟩ := hs
  have hlm : l.length = m := by simpa using hr.1
  refine ssa_wp (Φ := fun i => L.getD i AnyV) hi hg (wp_app0 w s x t ho base e ti z ht hti hz hsize hby hzs _ e1 hown A m c l hx hr hm hb fun v' w' h1 h2 => ⟨v', rfl, ?_, h2⟩)
  show (L.getD i AnyV) _ _
  rw [hφ]
  show w'.ownsRow base e 1 v' l.length (u8s l)
  rw [hlm]; exact h1
/-- What is moved is told as it was. -/
theorem ssa_same {L : List (Value → World → Prop)} {i : Nat} {o : Oper} {a : Act} {w : World} (hi : ops[i]? = some o) (hg : o.guard = none) (x : Operand) (ho : o.op = .assign x ∨ o.op = .move x) (h : ∃ v, a.eval x = v ∧ (L.getD i AnyV) v w) :
    wpOp P ops Q i (fun a' w' => ∃ v, a' = a.put o.dst v ∧ (L.getD i AnyV) v w' ∧ Gr w w') a w := by
  obtain ⟨v, e1, h⟩ := h
  refine ssa_value (Φ := fun i => L.getD i AnyV) hi hg v ?_ h (Gr.refl _)
  rcases ho with ho | ho <;> simp [execOp, ho, e1]
end
end Go.Proofs.YtbpgodkdbbiadaaDoor
