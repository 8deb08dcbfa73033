/- A region whose order is open and whose last operation, behind all others, turns the world as it likes (a store): each operation told once. No condition. -/
import Derived.Test.YtbpgodkdbbiadaaDoorSsa2
namespace Go.Proofs.YtbpgodkdbbiadaaDoor
open Go.RowKit

section
variable {P : Program} {ops : Array Oper} {Q : Exit → Act → World → Prop}

/-- Every operation is waited for by a later one, but the last. -/
def domB (ops : Array Oper) (z : Nat) : Bool := (List.range z).all fun i => (List.range (z + 1)).any fun j => i < j && match ops[j]? with | some o => o.after.any (fun e => Region.binds .any e && e.on == i) | none => false

theorem all_listed {z : Nat} (hdom : domB ops z = true) {listed : Array Bool} (closed : ∀ i o e, ops[i]? = some o → listed.getD i false = true → e ∈ o.after → Region.binds .any e = true → listed.getD e.on false = true)
    (hz : listed.getD z false = true) : ∀ i, i ≤ z → listed.getD i false = true := by
  have key : ∀ d i, i + d = z → listed.getD i false = true := by
    intro d
    induction d using Nat.strongRecOn with
    | ind d ih =>
      intro i hi
      by_cases h0 : d = 0
      · have : i = z := by omega
        rw [this]; exact hz
      · have h1 := List.all_eq_true.1 hdom i (by simp; omega)
        rw [List.any_eq_true] at h1
        obtain ⟨j, hj, h2⟩ := h1
        simp only [List.mem_range] at hj
        simp only [Bool.and_eq_true, decide_eq_true_eq] at h2
        obtain ⟨h3, h4⟩ := h2
        have hl := ih (z - j) (by omega) j (by omega)
        cases ho : ops[j]? with
        | none => rw [ho] at h4; cases h4
        | some o =>
          rw [ho] at h4
          simp only [Array.any_eq_true'] at h4
          obtain ⟨e, he, h5⟩ := h4
          simp only [Bool.and_eq_true, beq_iff_eq] at h5
          have := closed j o e ho hl he h5.1
          rwa [h5.2] at this
  intro i hi
  exact key (z - i) i (by omega)

theorem wpAny_ssaS (a0 : Act) (w0 : World) (Φ : Nat → Value → World → Prop) (G : World → World → Prop) (z : Nat) (oz : Oper) (hz : ops.size = z + 1) (hoz : ops[z]? = some oz) (hzd : oz.dst = none) (hdom : domB ops z = true) (htrans : ∀ a b c, G a b → G b c → G a c)
    (hΦ : ∀ i v w w', Φ i v w → G w w' → Φ i v w') (hB : ssaB ops a0.tmps.size = true)
    (hstep : ∀ i o, ops[i]? = some o → i < z → ∀ a w, G w0 w → Finds ops Φ a0 i o a w → wpOp P ops Q i (fun a' w' => ∃ v, a' = a.put o.dst v ∧ Φ i v w' ∧ G w w') a w)
    (R : World → World → Prop) (hlast : ∀ a w, G w0 w → Finds ops Φ a0 z oz a w → wpOp P ops Q z (fun a' w' => ∃ v, a' = a.put oz.dst v ∧ R w w') a w)
    (hend : ∀ a w w', G w0 w → R w w' → (∀ i o, ops[i]? = some o → i < z → ∃ v, (∀ d, o.dst = some d → a.tmps[d]? = some v) ∧ Φ i v w) → a.defers = a0.defers → a.tmps.size = a0.tmps.size →
      (∀ t, (∀ i o, ops[i]? = some o → i < z → o.dst ≠ some t) → a.tmps[t]? = a0.tmps[t]?) → Q .normal a w') :
    ∀ (fuel : Nat) (listed : Array Bool) (a : Act) (w : World), listed.size = ops.size → unlisted ops listed = fuel → listed.getD z false = false → G w0 w → Ssa ops Φ a0 listed a w → wpAny P .any ops Q fuel listed a w := by
  have hb : ∀ i oi, ops[i]? = some oi → (∀ e ∈ oi.after, Region.binds .any e = true → e.on < i) ∧ (∀ d, oi.dst = some d → d < a0.tmps.size) ∧
      (∀ k ok d, k ≠ i → ops[k]? = some ok → ok.dst = some d → oi.dst ≠ some d ∧ (d ∈ oi.looksAt ops → oi.after.any (fun e => Region.binds .any e && e.on == k) = true ∨ ok.after.any (fun e => Region.binds .any e && e.on == i) = true)) := by
    intro i oi hi
    have hlt : i < ops.size := by
      rcases Nat.lt_or_ge i ops.size with h | h
      · exact h
      · rw [Array.getElem?_eq_none h] at hi; cases hi
    have h1 := List.all_eq_true.1 hB i (by simpa using hlt)
    rw [hi] at h1
    simp only [Bool.and_eq_true] at h1
    obtain ⟨⟨h2, h3⟩, h4⟩ := h1
    refine ⟨fun e he => ?_, fun d hd => ?_, fun k ok d hk hok hd => ?_⟩
    · have h5 := (Array.all_eq_true'.1 h2) e he
      intro hbe
      simpa [hbe] using h5
    · rw [hd] at h3; simpa using h3
    · have hlt' : k < ops.size := by
        rcases Nat.lt_or_ge k ops.size with h | h
        · exact h
        · rw [Array.getElem?_eq_none h] at hok; cases hok
      have h5 := List.all_eq_true.1 h4 k (by simpa using hlt')
      rw [hok] at h5
      simp only [hd, Bool.or_eq_true, beq_iff_eq, hk, false_or, Bool.and_eq_true, bne_iff_ne, ne_eq, Bool.not_eq_true'] at h5
      refine ⟨h5.1, fun hm => ?_⟩
      rcases h5.2 with (h6 | h6) | h6
      · rw [List.contains_iff_mem.2 hm] at h6; cases h6
      · exact .inl h6
      · exact .inr h6
  intro fuel
  induction fuel with
  | zero =>
    intro listed a w hs hu hzu hG hI
    exfalso
    have h0 : (List.range ops.size).filter (fun i => !listed.getD i false) = [] := List.eq_nil_of_length_eq_zero hu
    have := List.filter_eq_nil_iff.1 h0 z (by simp; omega)
    simp [hzu] at this
  | succ fuel ih =>
    intro listed a w hs hu hzu hG hI
    refine ⟨fun hr => ?_, fun i hi => ?_⟩
    · exfalso
      have hex : ∃ i, i < ops.size ∧ listed.getD i false = false := ⟨z, by omega, hzu⟩
      obtain ⟨i, ⟨hi1, hi2⟩, hmin⟩ := exists_least hex
      have : i ∈ Region.ready .any ops listed := by
        rw [mem_ready]
        refine ⟨by rw [getD_true_false listed i (by omega)]; exact hi2, _, Array.getElem?_eq_getElem hi1, fun e he hbe => ?_⟩
        have h1 := (hb i _ (Array.getElem?_eq_getElem hi1)).1 e he hbe
        by_cases h2 : listed.getD e.on false = true
        · exact h2
        · exact absurd ⟨by omega, by simpa using h2⟩ (hmin e.on h1)
      rw [hr] at this
      cases this
    · obtain ⟨hun, oi, hoi, hall⟩ := mem_ready.1 hi
      have hlt : i < ops.size := by
        rcases Nat.lt_or_ge i ops.size with h | h
        · exact h
        · rw [Array.getElem?_eq_none h] at hoi; cases hoi
      rw [getD_true_false listed i (by omega)] at hun
      obtain ⟨b1, b2, b3⟩ := hb i oi hoi
      have hset : ∀ k, (listed.setIfInBounds i true).getD k false = (if k = i then true else listed.getD k false) := by
        intro k
        by_cases hk : k = i
        · subst hk; simp [Array.getD_eq_getD_getElem?, Array.getElem?_setIfInBounds_self_of_lt (by omega : k < listed.size)]
        · simp [Array.getD_eq_getD_getElem?, Array.getElem?_setIfInBounds_ne (Ne.symm hk), hk]
      have hdep : ∀ k, oi.after.any (fun e => Region.binds .any e && e.on == k) = true → listed.getD k false = true := by
        intro k hk
        rw [Array.any_eq_true'] at hk
        obtain ⟨e, he, hek⟩ := hk
        simp only [Bool.and_eq_true, beq_iff_eq] at hek
        rw [← hek.2]
        exact hall e he hek.1
      have hF : Finds ops Φ a0 i oi a w := by
        refine ⟨hI.defers, hI.size, fun k ok d hok hd _ hk => ?_, fun d hd hno => ?_⟩
        · obtain ⟨v, hv, hφ⟩ := hI.new k ok hok (hdep k hk)
          exact ⟨v, hv d hd, hφ⟩
        · apply hI.old
          intro k ok hok hlk hkd
          by_cases hki : k = i
          · subst hki; rw [hun] at hlk; cases hlk
          · rcases (b3 k ok d hki hok hkd).2 hd with h1 | h1
            · rw [hno k ok hok hkd hki] at h1; cases h1
            · rw [Array.any_eq_true'] at h1
              obtain ⟨e, he, hek⟩ := h1
              simp only [Bool.and_eq_true, beq_iff_eq] at hek
              have := hI.closed k ok e hok hlk he hek.1
              rw [hek.2, hun] at this
              cases this
      have hclosed' : ∀ k ok e, ops[k]? = some ok → (listed.setIfInBounds i true).getD k false = true → e ∈ ok.after → Region.binds .any e = true → (listed.setIfInBounds i true).getD e.on false = true := by
        intro k ok e hok hlk he hbe
        rw [hset k] at hlk
        rw [hset e.on]
        by_cases hki : k = i
        · subst hki
          rw [hoi] at hok; injection hok with hok; subst hok
          split
          · rfl
          · exact hall e he hbe
        · rw [if_neg hki] at hlk
          split
          · rfl
          · exact hI.closed k ok e hok hlk he hbe
      have hcount : unlisted ops (listed.setIfInBounds i true) = fuel := by
        unfold unlisted at hu ⊢
        have e1 : (List.range ops.size).filter (fun k => !(listed.setIfInBounds i true).getD k false) = ((List.range ops.size).filter fun k => !listed.getD k false).erase i := by
          rw [List.Nodup.erase_eq_filter (List.Pairwise.filter _ List.nodup_range), List.filter_filter]
          apply List.filter_congr
          intro k _
          rw [hset k]
          by_cases hk : k = i
          · simp [hk]
          · simp [hk]
        rw [e1, List.length_erase_of_mem (by rw [List.mem_filter]; exact ⟨by simpa using hlt, by simp [hun]⟩), hu]
        omega
      by_cases hiz : i = z
      · subst hiz
        rw [hoz] at hoi; injection hoi with hoi; subst hoi
        have hallL := all_listed hdom hclosed' (by rw [hset i]; simp)
        have hothers : ∀ k, k < i → listed.getD k false = true := by
          intro k hk
          have := hallL k (by omega)
          rw [hset k, if_neg (by omega)] at this
          exact this
        refine wpOp_mono (fun a' w' h => ?_) (hlast a w hG hF)
        obtain ⟨v, rfl, hR⟩ := h
        have ha : a.put oz.dst v = a := by rw [hzd]; rfl
        rw [ha]
        have hf0 : fuel = 0 := by
          rw [← hcount]
          unfold unlisted
          rw [List.length_eq_zero_iff, List.filter_eq_nil_iff]
          intro k hk
          have := hallL k (by simp at hk; omega)
          simp [this]
        subst hf0
        refine ⟨?_, hend a w w' hG hR (fun k ok hk hki => hI.new k ok hk (hothers k hki)) hI.defers hI.size fun t ht => hI.old t fun k o hk hl => ht k o hk ?_⟩
        · unfold Region.ready
          rw [List.filter_eq_nil_iff]
          intro k hk
          simp only [List.mem_range] at hk
          have := hallL k (by omega)
          rw [← getD_true_false _ k (by simp; omega)] at this
          simp [this]
        · rcases Nat.lt_or_ge k i with h | h
          · exact h
          · exfalso
            have : k = i := by
              have : k < ops.size := by
                rcases Nat.lt_or_ge k ops.size with h | h
                · exact h
                · rw [Array.getElem?_eq_none h] at hk; cases hk
              omega
            subst this
            rw [hun] at hl; cases hl
      · refine wpOp_mono (fun a' w' h => ?_) (hstep i oi hoi (by omega) a w hG hF)
        obtain ⟨v, rfl, hφ, hg⟩ := h
        have hput : ∀ t, oi.dst ≠ some t → (a.put oi.dst v).tmps[t]? = a.tmps[t]? := by
          intro t ht
          cases hd : oi.dst with
          | none => rfl
          | some d =>
            have hne : d ≠ t := fun e => ht (by rw [hd, e])
            simp [Act.put, Array.getElem?_setIfInBounds_ne hne]
        refine ih _ _ _ (by simp [hs]) hcount (by rw [hset z, if_neg (Ne.symm hiz)]; exact hzu) (htrans _ _ _ hG hg) ⟨?_, ?_, ?_, ?_, hclosed'⟩
        · cases hd : oi.dst <;> simp [Act.put, hI.defers]
        · cases hd : oi.dst <;> simp [Act.put, hI.size]
        · intro k ok hok hlk
          rw [hset k] at hlk
          by_cases hki : k = i
          · subst hki
            rw [hoi] at hok; injection hok with hok; subst hok
            refine ⟨v, fun d hd => ?_, hφ⟩
            have := b2 d hd
            rw [hd]
            simp [Act.put, Array.getElem?_setIfInBounds_self_of_lt (by rw [hI.size]; exact this : d < a.tmps.size)]
          · rw [if_neg hki] at hlk
            obtain ⟨u, hu1, hu2⟩ := hI.new k ok hok hlk
            refine ⟨u, fun d hd => ?_, hΦ _ _ _ _ hu2 hg⟩
            rw [hput d (b3 k ok d hki hok hd).1]
            exact hu1 d hd
        · intro t ht
          have h1 : oi.dst ≠ some t := ht i oi hoi (by rw [hset i]; simp)
          rw [hput t h1]
          apply hI.old
          intro k ok hok hlk
          exact ht k ok hok (by rw [hset k]; split <;> simp_all)

/-- Draws alone. -/
def Dr (w w' : World) : Prop := ∃ k, w' = w.drewN k
theorem Dr.refl (w : World) : Dr w w := ⟨0, rfl⟩
theorem Dr.trans {a b c : World} (h : Dr a b) (k : Dr b c) : Dr a c := by
  obtain ⟨m, rfl⟩ := h; obtain ⟨n, rfl⟩ := k; exact ⟨m + n, World.drewN_drewN _ _ _⟩
theorem Dr.drew (w : World) : Dr w w.drew := ⟨1, rfl⟩
theorem Dr.cell {w w' : World} (h : Dr w w') (p : Addr) : w'.cell? p = w.cell? p := by obtain ⟨k, rfl⟩ := h; rfl
theorem Dr.frozen {w w' : World} (h : Dr w w') (p : Addr) : w'.frozen? p = w.frozen? p := by obtain ⟨k, rfl⟩ := h; rfl
theorem Dr.heap {w w' : World} (h : Dr w w') : w'.heap = w.heap := by obtain ⟨k, rfl⟩ := h; rfl
abbrev StepD (P : Program) (ops : Array Oper) (Q : Exit → Act → World → Prop) (L : List (Value → World → Prop)) (i : Nat) (o : Oper) (a : Act) (w : World) : Prop :=
  wpOp P ops Q i (fun a' w' => ∃ v, a' = a.put o.dst v ∧ (L.getD i AnyV) v w' ∧ Dr w w') a w
section
variable {L : List (Value → World → Prop)} {i : Nat} {o : Oper} {a a0 : Act} {w : World}
theorem d_is (hi : ops[i]? = some o) (hw : Wanted ops o a) (x : Value) (hφ : L.getD i AnyV = IsV x) (hrun : (execOp a.eval o).run P w = .ok (.value x) w) : StepD P ops Q L i o a w := by
  unfold StepD wpOp
  unfold Wanted at hw
  simp only [hi, hw, if_true, Oper.wp, hrun, Oper.upon, hφ]
  exact .inl ⟨x, rfl, rfl, Dr.refl _⟩
theorem d_same (hi : ops[i]? = some o) (hw : Wanted ops o a) (x : Operand) (ho : o.op = .assign x ∨ o.op = .move x) (y : Value) (h : ∃ v, a.eval x = v ∧ IsV y v w) (hφ : L.getD i AnyV = IsV y) : StepD P ops Q L i o a w := by
  obtain ⟨v, e1, h⟩ := h
  have h : v = y := h
  subst h
  refine d_is hi hw _ hφ ?_
  rcases ho with ho | ho <;> simp [execOp, ho, e1]
theorem d_old (hi : ops[i]? = some o) (hw : Wanted ops o a) (x : Operand) (ho : o.op = .assign x ∨ o.op = .move x) (v : Value) (e : a.eval x = v) (hφ : L.getD i AnyV = IsV v) : StepD P ops Q L i o a w :=
  d_same hi hw x ho v ⟨v, e, rfl⟩ hφ
theorem d_call (hi : ops[i]? = some o) (hw : Wanted ops o a) (x : Value) (hφ : L.getD i AnyV = IsV x) (f : FuncId) (args : Array Value)
    (hrun : (execOp a.eval o).run P w = .ok (.enter f args) w) (hc : Calls P f args w fun e w' => e = .returned x ∧ Dr w w') : StepD P ops Q L i o a w := by
  unfold StepD wpOp
  unfold Wanted at hw
  simp only [hi, hw, if_true, Oper.wp, hrun, Oper.upon]
  refine .inl (hc.mono ?_)
  rintro e w' ⟨rfl, h2⟩
  exact ⟨x, rfl, by rw [hφ]; rfl, h2⟩
end

/-- **A REGION THAT DRAWS ITS ORDER, READS, AND STORES ONE CELL AT ITS END.** -/
theorem wp_region_st {id : Nat} {a0 : Act} {w0 : World} (hm : P.follows .mixedOrders = true) (L : List (Value → World → Prop)) (z : Nat) (oz : Oper) (hz : ops.size = z + 1) (hoz : ops[z]? = some oz) (hzd : oz.dst = none) (hdom : domB ops z = true) (hB : ssaB ops a0.tmps.size = true)
    (hLv : ∀ φ ∈ L, ∃ x, φ = IsV x) (p : Addr) (u : Value)
    (hstep : AllFrom (fun i o => ∀ a w, Dr w0.drew w → Finds ops (fun i => L.getD i AnyV) a0 i o a w → StepD P ops Q L i o a w) 0 (ops.toList.take z))
    (hlast : ∀ a w, Dr w0.drew w → Finds ops (fun i => L.getD i AnyV) a0 z oz a w → Wanted ops oz a ∧ (execOp a.eval oz).run P w = .ok .skip (w.setCell p u))
    (hend : ∀ (vs : Nat → Value) k, (∀ i, i < z → (L.getD i AnyV) (vs i) w0) → Q .normal (putAll vs 0 ops.toList a0) ((w0.drewN k).setCell p u)) : (Code.region id ops true).wp P Q a0 w0 := by
  have hΦ : ∀ i v (w w' : World), (L.getD i AnyV) v w → (L.getD i AnyV) v w' := by
    intro i v w w' h
    rcases Nat.lt_or_ge i L.length with hlt | hge
    · simp only [List.getD_eq_getElem?_getD, List.getElem?_eq_getElem hlt, Option.getD_some] at h ⊢
      obtain ⟨x, hx⟩ := hLv _ (List.getElem_mem hlt)
      rw [hx] at h ⊢
      exact h
    · simp only [List.getD_eq_getElem?_getD, List.getElem?_eq_none hge, Option.getD_none] at h ⊢
      exact trivial
  refine wp_region_any hm (wpAny_ssaS a0 w0.drew (fun i => L.getD i AnyV) Dr z oz hz hoz hzd hdom (fun _ _ _ => Dr.trans) (fun i v w w' h _ => hΦ i v w w' h) hB ?_ (fun w w' => w' = w.setCell p u) ?_ ?_ ops.size (Array.replicate ops.size false) a0 w0.drew (by simp) ?_ ?_ (Dr.refl _) ⟨rfl, rfl, ?_, fun _ _ => rfl, ?_⟩)
  · intro i o hi hiz a w hg hF
    have h1 := allFrom_get (ops.toList.take z) 0 hstep i o (by rw [List.getElem?_take]; simp [hiz, hi])
    simp only [Nat.zero_add] at h1
    exact h1 a w hg hF
  · intro a w hg hF
    obtain ⟨h1, h2⟩ := hlast a w hg hF
    unfold wpOp
    unfold Wanted at h1
    simp only [hoz, h1, if_true, Oper.wp, h2, Oper.upon]
    exact .inl ⟨undef, rfl, trivial⟩
  · rintro a w w' ⟨k, rfl⟩ rfl hnew hdef hsize hold
    have hch : ∀ i, ∃ v, i < z → (∀ d, ((ops[i]?).bind (fun o : Oper => o.dst)) = some d → a.tmps[d]? = some v) ∧ (L.getD i AnyV) v w0 := by
      intro i
      by_cases hi : i < z
      · obtain ⟨v, h1, h2⟩ := hnew i _ (Array.getElem?_eq_getElem (by omega : i < ops.size)) hi
        exact ⟨v, fun _ => ⟨fun d hd => h1 d (by simpa [(by omega : i < ops.size)] using hd), hΦ _ _ _ _ h2⟩⟩
      · exact ⟨undef, fun h => absurd h hi⟩
    have hvs := fun i => Classical.choose_spec (hch i)
    have hend' := hend (fun i => Classical.choose (hch i)) (1 + k) fun i hi => (hvs i hi).2
    have ha : putAll (fun i => Classical.choose (hch i)) 0 ops.toList a0 = a := by
      have h1 := putAll_defers (fun i => Classical.choose (hch i)) ops.toList 0 a0
      have h2 := putAll_size (fun i => Classical.choose (hch i)) ops.toList 0 a0
      have h3 : (putAll (fun i => Classical.choose (hch i)) 0 ops.toList a0).tmps = a.tmps := by
        apply Array.ext_getElem?
        intro t
        by_cases hex : ∃ (j : Nat) (o : Oper), ops[j]? = some o ∧ o.dst = some t
        · obtain ⟨j, o, hj, hd⟩ := hex
          have hlt : j < ops.size := by
            rcases Nat.lt_or_ge j ops.size with h | h
            · exact h
            · rw [Array.getElem?_eq_none h] at hj; cases hj
          have hjz : j < z := by
            rcases Nat.lt_or_ge j z with h | h
            · exact h
            · exfalso
              have : j = z := by omega
              subst this
              rw [hoz] at hj; injection hj with hj; subst hj
              rw [hzd] at hd; cases hd
          have hb := List.all_eq_true.1 hB j (by simpa using hlt)
          rw [hj] at hb
          simp only [Bool.and_eq_true, hd, decide_eq_true_eq] at hb
          rw [putAll_new _ t ops.toList 0 a0 j o (by simpa using hj) hd hb.1.2 fun k o' hk hd' => ?_, (hvs j hjz).1 t (by rw [hj]; exact hd)]
          · simp
          · rcases Nat.decEq k j with hkj | hkj
            · exfalso
              have hk' : ops[k]? = some o' := by simpa using hk
              have hltk : k < ops.size := by
                rcases Nat.lt_or_ge k ops.size with h | h
                · exact h
                · rw [Array.getElem?_eq_none h] at hk'; cases hk'
              have h5 := List.all_eq_true.1 hb.2 k (by simpa using hltk)
              rw [hk'] at h5
              simp [hkj, hd'] at h5
            · exact hkj
        · rw [putAll_old _ t ops.toList 0 a0 (fun (o : Oper) ho e => hex (by obtain ⟨j, hj⟩ := List.getElem?_of_mem ho; exact ⟨j, o, by simpa using hj, e⟩)), hold t fun i o hi _ e => hex ⟨i, o, hi, e⟩]
      have h4 := hdef
      cases a
      cases hq : putAll (fun i => Classical.choose (hch i)) 0 ops.toList a0
      rw [hq] at h1 h3
      simp only at h1 h3 h4
      rw [h1, h3, h4]
    rw [← ha]
    rw [World.drewN_drew]
    exact hend'
  · unfold unlisted
    rw [List.filter_eq_self.2]
    · simp
    · intro i hi
      simp only [List.mem_range] at hi
      simp [hi]
  · rw [Array.getD_eq_getD_getElem?, Array.getElem?_replicate]
    split <;> simp
  · intro i o hi hl
    exfalso
    rw [Array.getD_eq_getD_getElem?, Array.getElem?_replicate] at hl
    split at hl <;> simp at hl
  · intro i o e hi hl
    exfalso
    rw [Array.getD_eq_getD_getElem?, Array.getElem?_replicate] at hl
    split at hl <;> simp at hl
end
end Go.Proofs.YtbpgodkdbbiadaaDoor
