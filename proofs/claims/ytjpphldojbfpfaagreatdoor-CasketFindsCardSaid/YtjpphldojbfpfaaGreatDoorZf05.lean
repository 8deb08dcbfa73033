/- Texts of one proof, laid as one: part 5. No condition. -/
import Derived.Deep.Upon
import Derived.Deep.Matrix
import Derived.Lib.LaidTab
import Derived.Stop.LaidErr
import Derived.LaidMore
import Derived.MakeChecks
import Derived.Test.YtjpphldojbfpfaaGreatDoorZf01
import Derived.Test.YtjpphldojbfpfaaGreatDoorZf02
import Derived.Test.YtjpphldojbfpfaaGreatDoorZf04
namespace Go.Proofs.YtjpphldojbfpfaaGreatDoor
open Go.RowKit
section
variable {P : Program} {w : World}
theorem run_append_fresh (base : Nat) (t ty e : TypeId) (i : TypeInfo) (z : Value) (size bytes : Nat) (ht : P.underlying t = some (.slice e)) (hi : P.info? e = some i) (hz : i.zero = some z)
    (hsize : i.size = size) (hby : i.bytes = bytes) (hzs : z.cells.size = size) (hsz : 0 < size) (g : Nat) (hown : w.ownsRow base e size (.slice (some ⟨g, 0, none⟩) 0 0) 0 [])
    (a : Addr) (m c2 : Nat) (news : List Value) (hl : news.length = m * size) (hnews : ∀ j u, news[j]? = some u → w.cell? (a.add j) = some u) (h1 : ∀ u ∈ news, u.oneCell' = true)
    (h63 : m ≤ maxLen) (hbytes : m * bytes ≤ 140737488355328) (hbase : base ≤ w.heap.size) :
    ∃ A' c' w', (Builtin.append_ #[t, t] ty #[.slice (some ⟨g, 0, none⟩) 0 0, .slice (some a) m c2]).run P w = .ok (.slice A' m c') w' ∧ w'.ownsRow base e size (.slice A' m c') m news ∧ Gr w w' := by
  obtain ⟨A', c', w', hr, h2, hT, hold, _⟩ := run_append_keep (P := P) base t ty e i z size bytes ht hi hz hsize hby hzs hsz (some ⟨g, 0, none⟩) 0 0 [] hown a m c2 news hl hnews h1 (by omega) (by rw [Nat.zero_add]; exact hbytes) hbase; rw [Nat.zero_add] at hr h2; rw [List.nil_append] at h2; refine ⟨A', c', w', hr, h2, hT.os, hT.tape, hT.output, hT.size, fun k hk => ?_⟩
  by_cases hkg : k = g
  · subst hkg; rcases hown.2 with ⟨e1, _⟩ | ⟨g1, cap1, cur1, e1, _, b1, _, _, s1, _⟩
    · cases e1
    · rcases hold.2 with ⟨e2, _⟩ | ⟨g2, cap2, cur2, e2, _, b2, _, _, s2, _⟩
      · cases e2
      · injection e1 with e1 _ e3
        injection e2 with e2 _ e4
        injection e1 with e1
        injection e2 with e2
        injection e1 with e1
        injection e2 with e2
        subst e1 e2 e3 e4; rw [Nat.zero_mul] at s1 s2; rw [b1, b2, Array.size_eq_zero_iff.1 s1, Array.size_eq_zero_iff.1 s2]
  · refine hT.block k hk (.inr ?_); cases w.heap[k]? with
    | none => rfl
    | some o => exact blkT_far (A := some ⟨g, 0, none⟩) (fun ad h => by injection h with h; subst h; exact fun e => hkg e.symm) o
end
def intV (l : List Nat) : List Value := l.map fun x : Nat => Value.int .i64 (x : Int)
@[simp] theorem intV_length (l : List Nat) : (intV l).length = l.length := by simp [intV]
theorem intV_at {l : List Nat} {i x : Nat} (h : l[i]? = some x) : (intV l)[i]? = some (.int .i64 (x : Int)) := by simp [intV, h]
theorem intV_one (l : List Nat) : ∀ u ∈ intV l, u.oneCell' = true := by
  intro u hu; unfold intV at hu; obtain ⟨x, _, rfl⟩ := List.mem_map.1 hu; rfl
theorem intV_append (a b : List Nat) : intV (a ++ b) = intV a ++ intV b := by simp [intV]
end Go.Proofs.YtjpphldojbfpfaaGreatDoor
namespace Go.Proofs.YtjpphldojbfpfaaGreatDoor
open Go.RowKit
section
variable {P : Program} {w : World}
theorem run_clone (base : Nat) (t ty e : TypeId) (i : TypeInfo) (z : Value) (size bytes : Nat) (ht : P.underlying t = some (.slice e)) (hi : P.info? e = some i) (hz : i.zero = some z)
    (hsize : i.size = size) (hby : i.bytes = bytes) (hzs : z.cells.size = size) (hsz : 0 < size) (g : Nat) (hown : w.ownsRow base e size (.slice (some ⟨g, 0, none⟩) 0 0) 0 [])
    (A : Option Addr) (m c2 : Nat) (news : List Value) (hl : news.length = m * size) (hnews : ∀ j u, news[j]? = some u → ∃ ad, A = some ad ∧ w.cell? (ad.add j) = some u) (h1 : ∀ u ∈ news, u.oneCell' = true)
    (h63 : m ≤ maxLen) (hbytes : m * bytes ≤ 140737488355328) (hbase : base ≤ w.heap.size) :
    ∃ A' c' w', (Builtin.append_ #[t, t] ty #[.slice (some ⟨g, 0, none⟩) 0 0, .slice A m c2]).run P w = .ok (.slice A' m c') w' ∧ w'.ownsRow base e size (.slice A' m c') m news ∧ Gr w w' := by
  cases A with
  | some a => exact run_append_fresh base t ty e i z size bytes ht hi hz hsize hby hzs hsz g hown a m c2 news hl (fun j u h => by
      obtain ⟨ad, ha, hc⟩ := hnews j u h; injection ha with ha
      subst ha; exact hc) h1 h63 hbytes hbase
  | none =>
    have hm : m = 0 := by
      rcases Nat.eq_zero_or_pos m with h | h
      · exact h
      · have hp : 0 < news.length := by rw [hl]; exact Nat.mul_pos h hsz
        obtain ⟨_, ha, _⟩ := hnews 0 news[0] (List.getElem?_eq_getElem hp); cases ha
    subst hm; have hn : news = [] := List.length_eq_zero_iff.1 (by rw [hl, Nat.zero_mul]); subst hn; exact ⟨_, _, w, run_append_nothing w t t ty e i ht hi _ 0 0 (Nat.le_refl _) _ (Src.ofNil w ht c2), hown, Gr.refl _⟩
theorem wpList_clone {ops : Array Oper} {rest : List Oper} {o : Oper} {x : Act} {Q : Exit → Act → World → Prop} (hgd : o.guard = none) (s y : Operand) (t : TypeId)
    (ho : o.op = .call { callee := .builtin .append, args := #[s, y], argTypes := #[t, t] })
    (base : Nat) (e : TypeId) (i : TypeInfo) (z : Value) (size bytes : Nat) (ht : P.underlying t = some (.slice e)) (hi : P.info? e = some i) (hz : i.zero = some z)
    (hsize : i.size = size) (hby : i.bytes = bytes) (hzs : z.cells.size = size) (hsz : 0 < size) {g : Nat} (hs : x.eval s = .slice (some ⟨g, 0, none⟩) 0 0) (hown : w.ownsRow base e size (.slice (some ⟨g, 0, none⟩) 0 0) 0 [])
    (A : Option Addr) (m c2 : Nat) (news : List Value) (hx : x.eval y = .slice A m c2) (hl : news.length = m * size) (hnews : ∀ j u, news[j]? = some u → ∃ ad, A = some ad ∧ w.cell? (ad.add j) = some u) (h1 : ∀ u ∈ news, u.oneCell' = true)
    (h63 : m ≤ maxLen) (hbytes : m * bytes ≤ 140737488355328) (hbase : base ≤ w.heap.size)
    (hK : ∀ A' c' w', w'.ownsRow base e size (.slice A' m c') m news → Gr w w' → wpList P ops Q rest (x.put o.dst (.slice A' m c')) w') : wpList P ops Q (o :: rest) x w := by
  obtain ⟨A', c', w', hr, h2, h3⟩ := run_clone (P := P) base t o.type e i z size bytes ht hi hz hsize hby hzs hsz g hown A m c2 news hl hnews h1 h63 hbytes hbase; refine wpList_plain hgd fun _ hKK => ?_; unfold Oper.wp execOp; simp only [ho, resolve, invoke, builtin, Sem.run_bind, Sem.run_pure, Result.andThen_ok, List.map_toArray, List.map_cons, List.map_nil, hs, hx, hr]; exact hKK _ _ (hK A' c' w' h2 h3)
end
theorem own_emptyE {w : World} {B : Nat} (e : TypeId) (size : Nat) (hB : B ≤ w.heap.size) : (w.alloc (.cells #[] e)).ownsRow B e size (.slice (some ⟨w.heap.size, 0, none⟩) 0 0) 0 [] :=
  ⟨by simp, .inr ⟨w.heap.size, 0, #[], rfl, hB, heap_alloc_new w _, by omega, by unfold maxLen; omega, by simp, by simp⟩⟩
end Go.Proofs.YtjpphldojbfpfaaGreatDoor
namespace Go.Proofs.YtjpphldojbfpfaaGreatDoor
open Go.RowKit
section
variable {P : Program} {ops : Array Oper} {Q : Exit → Act → World → Prop}
theorem wpAny_ssaJ (J : Array Bool → Act → World → Prop) (a0 : Act) (w0 : World) (Φ : Nat → Value → World → Prop) (G : World → World → Prop) (htrans : ∀ a b c, G a b → G b c → G a c)
    (hΦ : ∀ i v w w', Φ i v w → G w w' → Φ i v w') (hB : ssaB ops a0.tmps.size = true)
    (hstep : ∀ i o, ops[i]? = some o → ∀ listed : Array Bool, listed.size = ops.size → listed.getD i false = false → (∀ e ∈ o.after, Region.binds .any e = true → listed.getD e.on false = true) → ∀ a w, G w0 w → J listed a w → Finds ops Φ a0 i o a w → wpOp P ops Q i (fun a' w' => ∃ v, a' = a.put o.dst v ∧ Φ i v w' ∧ G w w' ∧ J (listed.setIfInBounds i true) a' w') a w)
    (hend : ∀ a w, G w0 w → Ssa ops Φ a0 (Array.replicate ops.size true) a w → J (Array.replicate ops.size true) a w → Q .normal a w) :
    ∀ (fuel : Nat) (listed : Array Bool) (a : Act) (w : World), listed.size = ops.size → unlisted ops listed = fuel → G w0 w → Ssa ops Φ a0 listed a w → J listed a w → wpAny P .any ops Q fuel listed a w := by
  have hb : ∀ i oi, ops[i]? = some oi → (∀ e ∈ oi.after, Region.binds .any e = true → e.on < i) ∧ (∀ d, oi.dst = some d → d < a0.tmps.size) ∧
      (∀ k ok d, k ≠ i → ops[k]? = some ok → ok.dst = some d → oi.dst ≠ some d ∧ (d ∈ oi.looksAt ops → oi.after.any (fun e => Region.binds .any e && e.on == k) = true ∨ ok.after.any (fun e => Region.binds .any e && e.on == i) = true)) := by
    intro i oi hi
    have hlt : i < ops.size := by
      rcases Nat.lt_or_ge i ops.size with h | h
      · exact h
      · rw [Array.getElem?_eq_none h] at hi; cases hi
    have h1 := List.all_eq_true.1 hB i (by simpa using hlt); rw [hi] at h1; simp only [Bool.and_eq_true] at h1; obtain ⟨⟨h2, h3⟩, h4⟩ := h1; refine ⟨fun e he => ?_, fun d hd => ?_, fun k ok d hk hok hd => ?_⟩
    · have h5 := (Array.all_eq_true'.1 h2) e he; intro hbe; simpa [hbe] using h5
    · rw [hd] at h3; simpa using h3
    · have hlt' : k < ops.size := by
        rcases Nat.lt_or_ge k ops.size with h | h
        · exact h
        · rw [Array.getElem?_eq_none h] at hok; cases hok
      have h5 := List.all_eq_true.1 h4 k (by simpa using hlt'); rw [hok] at h5; simp only [hd, Bool.or_eq_true, beq_iff_eq, hk, false_or, Bool.and_eq_true, bne_iff_ne, ne_eq, Bool.not_eq_true'] at h5; refine ⟨h5.1, fun hm => ?_⟩; rcases h5.2 with (h6 | h6) | h6
      · rw [List.contains_iff_mem.2 hm] at h6; cases h6
      · exact .inl h6
      · exact .inr h6
  intro fuel
  induction fuel with
  | zero =>
    intro listed a w hs hu hG hI hJ
    have hall : ∀ i, i < ops.size → listed.getD i false = true := by
      intro i hi; have h0 : (List.range ops.size).filter (fun i => !listed.getD i false) = [] := List.eq_nil_of_length_eq_zero hu; have := List.filter_eq_nil_iff.1 h0 i (by simpa using hi); simpa using this
    have hl : listed = Array.replicate ops.size true := by
      apply Array.ext
      · simp [hs]
      · intro i h1 h2; have := hall i (by omega); simp [h1] at this; simp [this]
    refine ⟨?_, hend a w hG (hl ▸ hI) (hl ▸ hJ)⟩; unfold Region.ready; rw [List.filter_eq_nil_iff]; intro i hi; have := hall i (by simpa using hi); rw [← getD_true_false listed i (by simp at hi; omega)] at this; simp [this]
  | succ fuel ih =>
    intro listed a w hs hu hG hI hJ; refine ⟨fun hr => ?_, fun i hi => ?_⟩
    · exfalso
      -- the least that is not listed may come up
      have hex : ∃ i, i < ops.size ∧ listed.getD i false = false := by
        have h0 : (List.range ops.size).filter (fun i => !listed.getD i false) ≠ [] := by
          intro h; unfold unlisted at hu; rw [h] at hu; simp at hu
        obtain ⟨i, hi⟩ := List.exists_mem_of_ne_nil _ h0; rw [List.mem_filter] at hi; exact ⟨i, by simpa using hi.1, by simpa using hi.2⟩
      obtain ⟨i, ⟨hi1, hi2⟩, hmin⟩ := exists_least hex
      have : i ∈ Region.ready .any ops listed := by
        rw [mem_ready]; refine ⟨by rw [getD_true_false listed i (by omega)]; exact hi2, _, Array.getElem?_eq_getElem hi1, fun e he hbe => ?_⟩; have h1 := (hb i _ (Array.getElem?_eq_getElem hi1)).1 e he hbe
        by_cases h2 : listed.getD e.on false = true
        · exact h2
        · exact absurd ⟨by omega, by simpa using h2⟩ (hmin e.on h1)
      rw [hr] at this; cases this
    · obtain ⟨hun, oi, hoi, hall⟩ := mem_ready.1 hi
      have hlt : i < ops.size := by
        rcases Nat.lt_or_ge i ops.size with h | h
        · exact h
        · rw [Array.getElem?_eq_none h] at hoi; cases hoi
      rw [getD_true_false listed i (by omega)] at hun; obtain ⟨b1, b2, b3⟩ := hb i oi hoi
      have hset : ∀ k, (listed.setIfInBounds i true).getD k false = (if k = i then true else listed.getD k false) := by
        intro k
        by_cases hk : k = i
        · subst hk; simp [Array.getD_eq_getD_getElem?, Array.getElem?_setIfInBounds_self_of_lt (by omega : k < listed.size)]
        · simp [Array.getD_eq_getD_getElem?, Array.getElem?_setIfInBounds_ne (Ne.symm hk), hk]
      have hdep : ∀ k, oi.after.any (fun e => Region.binds .any e && e.on == k) = true → listed.getD k false = true := by
        intro k hk; rw [Array.any_eq_true'] at hk; obtain ⟨e, he, hek⟩ := hk; simp only [Bool.and_eq_true, beq_iff_eq] at hek; rw [← hek.2]; exact hall e he hek.1
      have hF : Finds ops Φ a0 i oi a w := by
        refine ⟨hI.defers, hI.size, fun k ok d hok hd _ hk => ?_, fun d hd hno => ?_⟩
        · obtain ⟨v, hv, hφ⟩ := hI.new k ok hok (hdep k hk); exact ⟨v, hv d hd, hφ⟩
        · apply hI.old
          intro k ok hok hlk hkd
          by_cases hki : k = i
          · subst hki; rw [hun] at hlk; cases hlk
          · rcases (b3 k ok d hki hok hkd).2 hd with h1 | h1
            · rw [hno k ok hok hkd hki] at h1; cases h1
            · rw [Array.any_eq_true'] at h1; obtain ⟨e, he, hek⟩ := h1; simp only [Bool.and_eq_true, beq_iff_eq] at hek; have := hI.closed k ok e hok hlk he hek.1; rw [hek.2, hun] at this; cases this
      refine wpOp_mono (fun a' w' h => ?_) (hstep i oi hoi listed hs hun hall a w hG hJ hF); obtain ⟨v, rfl, hφ, hg, hJ2⟩ := h
      have hput : ∀ t, oi.dst ≠ some t → (a.put oi.dst v).tmps[t]? = a.tmps[t]? := by
        intro t ht; cases hd : oi.dst with
        | none => rfl
        | some d =>
          have hne : d ≠ t := fun e => ht (by rw [hd, e]); simp [Act.put, Array.getElem?_setIfInBounds_ne hne]
      refine ih _ _ _ (by simp [hs]) ?_ (htrans _ _ _ hG hg) ⟨?_, ?_, ?_, ?_, ?_⟩ hJ2
      · -- one fewer
        unfold unlisted at hu ⊢
        have e1 : (List.range ops.size).filter (fun k => !(listed.setIfInBounds i true).getD k false) = ((List.range ops.size).filter fun k => !listed.getD k false).erase i := by
          rw [List.Nodup.erase_eq_filter (List.Pairwise.filter _ List.nodup_range), List.filter_filter]; apply List.filter_congr
          intro k _; rw [hset k]
          by_cases hk : k = i
          · simp [hk]
          · simp [hk]
        rw [e1, List.length_erase_of_mem (by rw [List.mem_filter]; exact ⟨by simpa using hlt, by simp [hun]⟩), hu]; omega
      · cases hd : oi.dst <;> simp [Act.put, hI.defers]
      · cases hd : oi.dst <;> simp [Act.put, hI.size]
      · intro k ok hok hlk; rw [hset k] at hlk
        by_cases hki : k = i
        · subst hki; rw [hoi] at hok; injection hok with hok; subst hok
          refine ⟨v, fun d hd => ?_, hφ⟩; have := b2 d hd; rw [hd]; simp [Act.put, Array.getElem?_setIfInBounds_self_of_lt (by rw [hI.size]; exact this : d < a.tmps.size)]
        · rw [if_neg hki] at hlk; obtain ⟨u, hu1, hu2⟩ := hI.new k ok hok hlk; refine ⟨u, fun d hd => ?_, hΦ _ _ _ _ hu2 hg⟩; rw [hput d (b3 k ok d hki hok hd).1]; exact hu1 d hd
      · intro t ht; have h1 : oi.dst ≠ some t := ht i oi hoi (by rw [hset i]; simp); rw [hput t h1]; apply hI.old
        intro k ok hok hlk; exact ht k ok hok (by rw [hset k]; split <;> simp_all)
      · intro k ok e hok hlk he hbe; rw [hset k] at hlk; rw [hset e.on]
        by_cases hki : k = i
        · subst hki; rw [hoi] at hok; injection hok with hok; subst hok
          split
          · rfl
          · exact hall e he hbe
        · rw [if_neg hki] at hlk; split
          · rfl
          · exact hI.closed k ok e hok hlk he hbe
theorem wp_region_ssaJ (J : Array Bool → Act → World → Prop) {id : Nat} {a0 : Act} {w0 : World} (hm : P.follows .mixedOrders = true) (Φ : Nat → Value → World → Prop) (G : World → World → Prop) (htrans : ∀ a b c, G a b → G b c → G a c)
    (hΦ : ∀ i v w w', Φ i v w → G w w' → Φ i v w') (hB : ssaB ops a0.tmps.size = true) (hG : G w0.drew w0.drew) (hJ : J (Array.replicate ops.size false) a0 w0.drew)
    (hstep : ∀ i o, ops[i]? = some o → ∀ listed : Array Bool, listed.size = ops.size → listed.getD i false = false → (∀ e ∈ o.after, Region.binds .any e = true → listed.getD e.on false = true) → ∀ a w, G w0.drew w → J listed a w → Finds ops Φ a0 i o a w → wpOp P ops Q i (fun a' w' => ∃ v, a' = a.put o.dst v ∧ Φ i v w' ∧ G w w' ∧ J (listed.setIfInBounds i true) a' w') a w)
    (hend : ∀ (vs : Nat → Value) w, G w0.drew w → (∀ i, i < ops.size → Φ i (vs i) w) → J (Array.replicate ops.size true) (putAll vs 0 ops.toList a0) w → Q .normal (putAll vs 0 ops.toList a0) w) : (Code.region id ops true).wp P Q a0 w0 := by
  refine wp_region_any hm (wpAny_ssaJ J a0 w0.drew Φ G htrans hΦ hB hstep (fun a w hg hI hJ1 => ?_) ops.size (Array.replicate ops.size false) a0 w0.drew (by simp) ?_ hG ⟨rfl, rfl, ?_, fun _ _ => rfl, ?_⟩ hJ)
  · have hch : ∀ i, ∃ v, i < ops.size → (∀ d, ((ops[i]?).bind (fun o : Oper => o.dst)) = some d → a.tmps[d]? = some v) ∧ Φ i v w := by
      intro i
      by_cases hi : i < ops.size
      · obtain ⟨v, h1, h2⟩ := hI.new i _ (Array.getElem?_eq_getElem hi) (by simp [hi]); exact ⟨v, fun _ => ⟨fun d hd => h1 d (by simpa [hi] using hd), h2⟩⟩
      · exact ⟨undef, fun h => absurd h hi⟩
    have hvs := fun i => Classical.choose_spec (hch i); have hend' := hend (fun i => Classical.choose (hch i)) w hg fun i hi => (hvs i hi).2
    have ha : putAll (fun i => Classical.choose (hch i)) 0 ops.toList a0 = a := by
      have h1 := putAll_defers (fun i => Classical.choose (hch i)) ops.toList 0 a0; have h2 := putAll_size (fun i => Classical.choose (hch i)) ops.toList 0 a0
      have h3 : (putAll (fun i => Classical.choose (hch i)) 0 ops.toList a0).tmps = a.tmps := by
        apply Array.ext_getElem?
        intro t
        by_cases hex : ∃ (j : Nat) (o : Oper), ops[j]? = some o ∧ o.dst = some t
        · obtain ⟨j, o, hj, hd⟩ := hex
          have hlt : j < ops.size := by
            rcases Nat.lt_or_ge j ops.size with h | h
            · exact h
            · rw [Array.getElem?_eq_none h] at hj; cases hj
          have hb := List.all_eq_true.1 hB j (by simpa using hlt); rw [hj] at hb; simp only [Bool.and_eq_true, hd, decide_eq_true_eq] at hb; rw [putAll_new _ t ops.toList 0 a0 j o (by simpa using hj) hd hb.1.2 fun k o' hk hd' => ?_, (hvs j hlt).1 t (by rw [hj]; exact hd)]
          · simp
          · rcases Nat.decEq k j with hkj | hkj
            · exfalso
              have hk' : ops[k]? = some o' := by simpa using hk
              have hltk : k < ops.size := by
                rcases Nat.lt_or_ge k ops.size with h | h
                · exact h
                · rw [Array.getElem?_eq_none h] at hk'; cases hk'
              have h5 := List.all_eq_true.1 hb.2 k (by simpa using hltk); rw [hk'] at h5; simp [hkj, hd'] at h5
            · exact hkj
        · rw [putAll_old _ t ops.toList 0 a0 (fun (o : Oper) ho e => hex (by obtain ⟨j, hj⟩ := List.getElem?_of_mem ho; exact ⟨j, o, by simpa using hj, e⟩)), hI.old t fun i o hi _ e => hex ⟨i, o, hi, e⟩]
      have h4 := hI.defers; cases a; cases hq : putAll (fun i => Classical.choose (hch i)) 0 ops.toList a0; rw [hq] at h1 h3; simp only at h1 h3 h4; rw [h1, h3, h4]
    rw [← ha] at hJ1 ⊢; exact hend' hJ1
  · unfold unlisted; rw [List.filter_eq_self.2]
    · simp
    · intro i hi; simp only [List.mem_range] at hi; simp [hi]
  · intro i o hi hl; exfalso
    rw [Array.getD_eq_getD_getElem?, Array.getElem?_replicate] at hl; split at hl <;> simp at hl
  · intro i o e hi hl; exfalso
    rw [Array.getD_eq_getD_getElem?, Array.getElem?_replicate] at hl; split at hl <;> simp at hl
def StepJ (P : Program) (ops : Array Oper) (Q : Exit → Act → World → Prop) (J : Array Bool → Act → World → Prop) (G : World → World → Prop) (a0 : Act) (w0 : World) (L : List (Value → World → Prop)) (i : Nat) (o : Oper) : Prop :=
  ∀ listed : Array Bool, listed.size = ops.size → listed.getD i false = false → (∀ e ∈ o.after, Region.binds .any e = true → listed.getD e.on false = true) → ∀ a w, G w0 w → J listed a w → Finds ops (fun i => L.getD i AnyV) a0 i o a w → wpOp P ops Q i (fun a' w' => ∃ v, a' = a.put o.dst v ∧ (L.getD i AnyV) v w' ∧ G w w' ∧ J (listed.setIfInBounds i true) a' w') a w
theorem wp_region_ssaJL (J : Array Bool → Act → World → Prop) (G : World → World → Prop) (htrans : ∀ a b c, G a b → G b c → G a c) {id : Nat} {a0 : Act} {w0 : World} (hm : P.follows .mixedOrders = true) (L : List (Value → World → Prop)) (hB : ssaB ops a0.tmps.size = true) (hrefl : G w0.drew w0.drew) (hJ : J (Array.replicate ops.size false) a0 w0.drew)
    (hL : ∀ φ ∈ L, ∀ v w w', φ v w → G w w' → φ v w')
    (hstep : AllFrom (StepJ P ops Q J G a0 w0.drew L) 0 ops.toList)
    (hend : ∀ (vs : Nat → Value) w, G w0.drew w → AllFrom (fun i _ => (L.getD i AnyV) (vs i) w) 0 ops.toList → J (Array.replicate ops.size true) (putAll vs 0 ops.toList a0) w → Q .normal (putAll vs 0 ops.toList a0) w) : (Code.region id ops true).wp P Q a0 w0 := by
  refine wp_region_ssaJ J hm (fun i => L.getD i AnyV) G htrans (fun i v w w' h hg => ?_) hB hrefl hJ (fun i o hi => ops_all hstep i o hi) (fun vs w hg h hj => hend vs w hg ?_ hj)
  · rcases Nat.lt_or_ge i L.length with hlt | hge
    · simp only [List.getD_eq_getElem?_getD, List.getElem?_eq_getElem hlt, Option.getD_some] at h ⊢; exact hL _ (List.getElem_mem hlt) v w w' h hg
    · simp only [List.getD_eq_getElem?_getD, List.getElem?_eq_none hge, Option.getD_none] at h ⊢; exact trivial
  · have hall : ∀ (os : List Oper) (k : Nat), k + os.length ≤ ops.size → AllFrom (fun i _ => (L.getD i AnyV) (vs i) w) k os := by
      intro os
      induction os with
      | nil => intro k _; exact trivial
      | cons o os ih => intro k hk; simp at hk; exact ⟨h k (by omega), ih (k + 1) (by omega)⟩
    exact hall _ 0 (by simp)
end
end Go.Proofs.YtjpphldojbfpfaaGreatDoor
namespace Go.Proofs.YtjpphldojbfpfaaGreatDoor
open Go.RowKit
section
variable {P : Program} {ops : Array Oper} {Q : Exit → Act → World → Prop}
theorem wp_region_cut2G (G : World → World → Prop) (hrefl : ∀ w, G w w) (htrans : ∀ a b c, G a b → G b c → G a c) {id : Nat} {a0 : Act} {w0 : World} (hm : P.follows .mixedOrders = true) (L : List (Value → World → Prop)) (z : Nat) (hz : z < ops.size) (htail : tail2B ops z = true) (hdom : domB ops z = true) (hB : ssaB ops a0.tmps.size = true)
    (hL : ∀ φ ∈ L, ∀ v w w', φ v w → G w w' → φ v w')
    (hstep : AllFrom (StepL P ops Q a0 w0.drew G L) 0 (ops.toList.take z))
    (hend : ∀ (vs : Nat → Value) w, G w0.drew w → AllFrom (fun i _ => (L.getD i AnyV) (vs i) w) 0 (ops.toList.take z) → wpOp P ops Q z (TailOK P ops Q z) (putAll vs 0 (ops.toList.take z) a0) w) : (Code.region id ops true).wp P Q a0 w0 := by
  have hΦ : ∀ i v (w w' : World), (L.getD i AnyV) v w → G w w' → (L.getD i AnyV) v w' := by
    intro i v w w' h hg; rcases Nat.lt_or_ge i L.length with hlt | hge
    · simp only [List.getD_eq_getElem?_getD, List.getElem?_eq_getElem hlt, Option.getD_some] at h ⊢; exact hL _ (List.getElem_mem hlt) v w w' h hg
    · simp only [List.getD_eq_getElem?_getD, List.getElem?_eq_none hge, Option.getD_none] at h ⊢; exact trivial
  refine wp_region_any hm (wpAny_cut2 a0 w0.drew (fun i => L.getD i AnyV) G z hz htail hdom htrans hΦ hB ?_ ?_ ops.size (Array.replicate ops.size false) a0 w0.drew (by simp) ?_ ?_ (hrefl _) ⟨rfl, rfl, ?_, fun _ _ => rfl, ?_⟩)
  · intro i o hi hiz a w hg hF; have h1 := allFrom_get (ops.toList.take z) 0 hstep i o (by rw [List.getElem?_take]; simp [hiz, hi]); simp only [Nat.zero_add] at h1; exact h1 a w hg hF
  · intro a w hg hnew hdef hsize hold
    have hch : ∀ i, ∃ v, i < z → (∀ d, ((ops[i]?).bind (fun o : Oper => o.dst)) = some d → a.tmps[d]? = some v) ∧ (L.getD i AnyV) v w := by
      intro i
      by_cases hi : i < z
      · obtain ⟨v, h1, h2⟩ := hnew i _ (Array.getElem?_eq_getElem (by omega : i < ops.size)) hi; exact ⟨v, fun _ => ⟨fun d hd => h1 d (by simpa [(by omega : i < ops.size)] using hd), h2⟩⟩
      · exact ⟨undef, fun h => absurd h hi⟩
    have hvs := fun i => Classical.choose_spec (hch i)
    have hall : ∀ (os : List Oper) (k : Nat), k + os.length ≤ z → AllFrom (fun i _ => (L.getD i AnyV) (Classical.choose (hch i)) w) k os := by
      intro os
      induction os with
      | nil => intro k _; exact trivial
      | cons o os ih => intro k hk; simp at hk; exact ⟨(hvs k (by omega)).2, ih (k + 1) (by omega)⟩
    have hend' := hend (fun i => Classical.choose (hch i)) w hg (hall _ 0 (by simp; omega))
    have hlen : ∀ j (o : Oper), (ops.toList.take z)[j]? = some o → j < z ∧ ops[j]? = some o := by
      intro j o h; rw [List.getElem?_take] at h; split at h
      · exact ⟨by assumption, by simpa using h⟩
      · cases h
    have ha : putAll (fun i => Classical.choose (hch i)) 0 (ops.toList.take z) a0 = a := by
      have h1 := putAll_defers (fun i => Classical.choose (hch i)) (ops.toList.take z) 0 a0; have h2 := putAll_size (fun i => Classical.choose (hch i)) (ops.toList.take z) 0 a0
      have h3 : (putAll (fun i => Classical.choose (hch i)) 0 (ops.toList.take z) a0).tmps = a.tmps := by
        apply Array.ext_getElem?
        intro t
        by_cases hex : ∃ (j : Nat) (o : Oper), (ops.toList.take z)[j]? = some o ∧ o.dst = some t
        · obtain ⟨j, o, hj0, hd⟩ := hex; obtain ⟨hjz, hj⟩ := hlen j o hj0; have hlt : j < ops.size := by omega
          have hb := List.all_eq_true.1 hB j (by simpa using hlt); rw [hj] at hb; simp only [Bool.and_eq_true, hd, decide_eq_true_eq] at hb; rw [putAll_new _ t (ops.toList.take z) 0 a0 j o hj0 hd hb.1.2 fun k o' hk hd' => ?_, (hvs j hjz).1 t (by rw [hj]; exact hd)]
          · simp
          · rcases Nat.decEq k j with hkj | hkj
            · exfalso
              obtain ⟨hkz, hk'⟩ := hlen k o' hk; have hltk : k < ops.size := by omega
              have h5 := List.all_eq_true.1 hb.2 k (by simpa using hltk); rw [hk'] at h5; simp [hkj, hd'] at h5
            · exact hkj
        · rw [putAll_old _ t (ops.toList.take z) 0 a0 (fun (o : Oper) ho e => hex (by obtain ⟨j, hj⟩ := List.getElem?_of_mem ho; exact ⟨j, o, hj, e⟩)), hold t fun i o hi hiz e => hex ⟨i, o, by rw [List.getElem?_take]; simp [hiz, hi], e⟩]
      have h4 := hdef; cases a; cases hq : putAll (fun i => Classical.choose (hch i)) 0 (ops.toList.take z) a0; rw [hq] at h1 h3; simp only at h1 h3 h4; rw [h1, h3, h4]
    rw [← ha]; exact hend'
  · unfold unlisted; rw [List.filter_eq_self.2]
    · simp
    · intro i hi; simp only [List.mem_range] at hi; simp [hi]
  · intro k _; rw [Array.getD_eq_getD_getElem?, Array.getElem?_replicate]; split <;> simp
  · intro i o hi hl; exfalso
    rw [Array.getD_eq_getD_getElem?, Array.getElem?_replicate] at hl; split at hl <;> simp at hl
  · intro i o e hi hl; exfalso
    rw [Array.getD_eq_getD_getElem?, Array.getElem?_replicate] at hl; split at hl <;> simp at hl
theorem tail_anyG (G : World → World → Prop) (hrefl : ∀ w, G w w) (htrans : ∀ a b c, G a b → G b c → G a c) {a1 : Act} {w1 : World} (z : Nat) (L2 : List (Value → World → Prop)) (hB : ssaB ops a1.tmps.size = true)
    (hL : ∀ φ ∈ L2, ∀ v w w', φ v w → G w w' → φ v w') (oz : Oper) (hoz : ops[z]? = some oz) (v : Value) (hd : ∀ d, oz.dst = some d → a1.tmps[d]? = some v) (hv : ((List.replicate z AnyV ++ L2).getD z AnyV) v w1)
    (hstep : AllFrom (StepL P ops Q a1 w1 G (List.replicate z AnyV ++ L2)) (z + 1) (ops.toList.drop (z + 1)))
    (hend : ∀ (vs : Nat → Value) w, G w1 w → AllFrom (fun i _ => ((List.replicate z AnyV ++ L2).getD i AnyV) (vs i) w) (z + 1) (ops.toList.drop (z + 1)) → Q .normal (putAll vs (z + 1) (ops.toList.drop (z + 1)) a1) w) : TailOK P ops Q z a1 w1 := by
  obtain ⟨L, hLe⟩ : ∃ L, L = List.replicate z AnyV ++ L2 := ⟨_, rfl⟩; rw [← hLe] at hv hstep hend
  have hlow : ∀ i, i < z → L.getD i AnyV = AnyV := fun i hi => by
    rw [hLe, List.getD_eq_getElem?_getD, List.getElem?_append_left (by simpa using hi)]; simp [hi]
  have hΦ0 : ∀ i v (w w' : World), (L.getD i AnyV) v w → G w w' → (L.getD i AnyV) v w' := by
    intro i v w w' h hg; rcases Nat.lt_or_ge i L.length with hlt | hge
    · simp only [List.getD_eq_getElem?_getD, List.getElem?_eq_getElem hlt, Option.getD_some] at h ⊢; have hm := List.getElem_mem hlt; generalize L[i] = φ at h hm ⊢; rw [hLe] at hm; rcases List.mem_append.1 hm with hm | hm
      · rw [List.eq_of_mem_replicate hm]; exact trivial
      · exact hL _ hm v w w' h hg
    · simp only [List.getD_eq_getElem?_getD, List.getElem?_eq_none hge, Option.getD_none] at h ⊢; exact trivial
  have hdst : ∀ (i : Nat) (o : Oper) d, ops[i]? = some o → o.dst = some d → d < a1.tmps.size ∧ ∀ k (ok : Oper), k ≠ i → ops[k]? = some ok → ok.dst ≠ some d := by
    intro i o d hi hd
    have hlt : i < ops.size := by
      rcases Nat.lt_or_ge i ops.size with h | h
      · exact h
      · rw [Array.getElem?_eq_none h] at hi; cases hi
    have h1 := List.all_eq_true.1 hB i (by simpa using hlt); rw [hi] at h1; simp only [Bool.and_eq_true, hd, decide_eq_true_eq] at h1; refine ⟨h1.1.2, fun k ok hk hok hkd => ?_⟩
    have hltk : k < ops.size := by
      rcases Nat.lt_or_ge k ops.size with h | h
      · exact h
      · rw [Array.getElem?_eq_none h] at hok; cases hok
    have h5 := List.all_eq_true.1 h1.2 k (by simpa using hltk); rw [hok] at h5; simp [hk, hkd] at h5
  intro listed hs h1 h2 hcl; refine wpAny_ssaT z a1 w1 (fun i u w => (i ≤ z → ∀ (o : Oper) d, ops[i]? = some o → o.dst = some d → a1.tmps[d]? = some u) ∧ (L.getD i AnyV) u w) G htrans (fun i u w w' h hg => ⟨h.1, hΦ0 i u w w' h.2 hg⟩) hB ?_ ?_ _ listed a1 w1 hs rfl h1 (hrefl _) ⟨rfl, rfl, ?_, fun _ _ => rfl, hcl⟩
  · intro i o hi hzi a w hg hF; have hs1 := allFrom_get (ops.toList.drop (z + 1)) (z + 1) hstep (i - (z + 1)) o (by rw [List.getElem?_drop, show z + 1 + (i - (z + 1)) = i by omega]; simpa using hi); rw [show z + 1 + (i - (z + 1)) = i by omega] at hs1
    have hF' : Finds ops (fun i => L.getD i AnyV) a1 i o a w := ⟨hF.defers, hF.size, fun k ok d hok hkd hl ha => by
      obtain ⟨u, h3, h4⟩ := hF.dep k ok d hok hkd hl ha; exact ⟨u, h3, h4.2⟩, hF.old⟩
    refine wpOp_mono (fun a' w' h => ?_) (hs1 a w hg hF'); obtain ⟨u, h3, h4, h5⟩ := h; exact ⟨u, h3, ⟨fun h => absurd h (by omega), h4⟩, h5⟩
  · intro a w hg hI
    have hch : ∀ i, ∃ u, i < ops.size → (∀ d, ((ops[i]?).bind (fun o : Oper => o.dst)) = some d → a.tmps[d]? = some u) ∧ (L.getD i AnyV) u w := by
      intro i
      by_cases hi : i < ops.size
      · obtain ⟨u, h3, h4⟩ := hI.new i _ (Array.getElem?_eq_getElem hi) (by simp [hi]); exact ⟨u, fun _ => ⟨fun d hd => h3 d (by simpa [hi] using hd), h4.2⟩⟩
      · exact ⟨undef, fun h => absurd h hi⟩
    have hvs := fun i => Classical.choose_spec (hch i)
    have hall : ∀ (os : List Oper) (k : Nat), k + os.length ≤ ops.size → AllFrom (fun i _ => (L.getD i AnyV) (Classical.choose (hch i)) w) k os := by
      intro os
      induction os with
      | nil => intro k _; exact trivial
      | cons o os ih => intro k hk; simp at hk; exact ⟨(hvs k (by omega)).2, ih (k + 1) (by omega)⟩
    have hzs : z < ops.size := by
      rcases Nat.lt_or_ge z ops.size with h | h
      · exact h
      · rw [Array.getElem?_eq_none h] at hoz; cases hoz
    have hend' := hend (fun i => Classical.choose (hch i)) w hg (hall _ (z + 1) (by simp; omega))
    have ha : putAll (fun i => Classical.choose (hch i)) (z + 1) (ops.toList.drop (z + 1)) a1 = a := by
      have h3 := putAll_defers (fun i => Classical.choose (hch i)) (ops.toList.drop (z + 1)) (z + 1) a1
      have h5 : (putAll (fun i => Classical.choose (hch i)) (z + 1) (ops.toList.drop (z + 1)) a1).tmps = a.tmps := by
        apply Array.ext_getElem?
        intro t
        by_cases hex : ∃ (j : Nat) (o : Oper), (ops.toList.drop (z + 1))[j]? = some o ∧ o.dst = some t
        · obtain ⟨j, o, hj0, hdt⟩ := hex; have hj : ops[z + 1 + j]? = some o := by rw [List.getElem?_drop] at hj0; simpa using hj0
          have hlt : z + 1 + j < ops.size := by
            rcases Nat.lt_or_ge (z + 1 + j) ops.size with h | h
            · exact h
            · rw [Array.getElem?_eq_none h] at hj; cases hj
          obtain ⟨q1, q2⟩ := hdst _ _ _ hj hdt; rw [putAll_new _ t (ops.toList.drop (z + 1)) (z + 1) a1 j o hj0 hdt q1 fun k o' hk hd' => ?_, (hvs (z + 1 + j) hlt).1 t (by rw [hj]; exact hdt)]; rcases Nat.decEq k j with hkj | hkj
          · exfalso
            have hk' : ops[z + 1 + k]? = some o' := by rw [List.getElem?_drop] at hk; simpa using hk
            exact q2 (z + 1 + k) o' (by omega) hk' hd'
          · exact hkj
        · rw [putAll_old _ t (ops.toList.drop (z + 1)) (z + 1) a1 (fun (o : Oper) ho e => hex (by obtain ⟨j, hj⟩ := List.getElem?_of_mem ho; exact ⟨j, o, hj, e⟩))]
          by_cases hex2 : ∃ (i : Nat) (o : Oper), ops[i]? = some o ∧ o.dst = some t
          · obtain ⟨i, o, hi, hdt⟩ := hex2
            have hiz : i ≤ z := by
              rcases Nat.lt_or_ge z i with h | h
              · exact absurd ⟨i - (z + 1), o, by rw [List.getElem?_drop, show z + 1 + (i - (z + 1)) = i by omega]; simpa using hi, hdt⟩ hex
              · exact h
            obtain ⟨u, h6, h7⟩ := hI.new i o hi (by
              have : i < ops.size := by omega
              simp [this])
            rw [h7.1 hiz o t hi hdt, h6 t hdt]
          · exact (hI.old t fun i o hi _ e => hex2 ⟨i, o, hi, e⟩).symm
      have h4 := hI.defers; cases a; cases hq : putAll (fun i => Classical.choose (hch i)) (z + 1) (ops.toList.drop (z + 1)) a1; rw [hq] at h3 h5; simp only at h3 h4 h5; rw [h3, h5, h4]
    rw [← ha]; exact hend'
  · intro i o hi hl
    have hiz : i ≤ z := by
      rcases Nat.lt_or_ge z i with h | h
      · rw [h2 i h] at hl; cases hl
      · exact h
    by_cases hz : i = z
    · subst hz; rw [hoz] at hi; injection hi with hi
      subst hi; refine ⟨v, hd, ⟨fun _ o d ho hod => ?_, hv⟩⟩; rw [hoz] at ho; injection ho with ho
      subst ho; exact hd d hod
    · cases hdo : o.dst with
      | none =>
        refine ⟨undef, (fun d h => by cases h), ⟨fun _ o' d ho hod => ?_, by rw [hlow i (by omega)]; exact trivial⟩⟩; rw [hi] at ho; injection ho with ho
        subst ho; rw [hdo] at hod; cases hod
      | some d =>
        have hlt := (hdst i o d hi hdo).1; refine ⟨a1.tmps[d], fun d' h => ?_, ⟨fun _ o' d' ho hod => ?_, by rw [hlow i (by omega)]; exact trivial⟩⟩
        · injection h with h
          subst h; exact Array.getElem?_eq_getElem hlt
        · rw [hi] at ho; injection ho with ho
          subst ho; rw [hdo] at hod; injection hod with hod
          subst hod; exact Array.getElem?_eq_getElem hlt
theorem tail_putG (G : World → World → Prop) (hrefl : ∀ w, G w w) (htrans : ∀ a b c, G a b → G b c → G a c) {a : Act} {w1 : World} (z : Nat) (L2 : List (Value → World → Prop)) (oz : Oper) (hoz : ops[z]? = some oz) (v : Value) (hB : ssaB ops (a.put oz.dst v).tmps.size = true)
    (hL : ∀ φ ∈ L2, ∀ v w w', φ v w → G w w' → φ v w') (hv : ((List.replicate z AnyV ++ L2).getD z AnyV) v w1)
    (hstep : AllFrom (StepL P ops Q (a.put oz.dst v) w1 G (List.replicate z AnyV ++ L2)) (z + 1) (ops.toList.drop (z + 1)))
    (hend : ∀ (vs : Nat → Value) w, G w1 w → AllFrom (fun i _ => ((List.replicate z AnyV ++ L2).getD i AnyV) (vs i) w) (z + 1) (ops.toList.drop (z + 1)) → Q .normal (putAll vs (z + 1) (ops.toList.drop (z + 1)) (a.put oz.dst v)) w) : TailOK P ops Q z (a.put oz.dst v) w1 := by
  refine tail_anyG G hrefl htrans z L2 hB hL oz hoz v (fun d hd => ?_) hv hstep hend
  have hlt : z < ops.size := by
    rcases Nat.lt_or_ge z ops.size with h | h
    · exact h
    · rw [Array.getElem?_eq_none h] at hoz; cases hoz
  have h1 := List.all_eq_true.1 hB z (by simpa using hlt); rw [hoz] at h1; simp only [Bool.and_eq_true, hd, decide_eq_true_eq, put_size] at h1; rw [hd]; exact put_at _ _ _ h1.1.2
end
end Go.Proofs.YtjpphldojbfpfaaGreatDoor
namespace Go.Proofs.YtjpphldojbfpfaaGreatDoor
open Go.RowKit
section
variable {P : Program} {ops : Array Oper} {Q : Exit → Act → World → Prop}
def ChainJ (cs : List Nat) (St : Nat → World → Prop) (listed : Array Bool) (_ : Act) (w : World) : Prop :=
  ∃ s, s ≤ cs.length ∧ (∀ j c, cs[j]? = some c → (listed.getD c false = true ↔ j < s)) ∧ St s w
def chainB (ops : Array Oper) (cs : List Nat) : Bool :=
  (List.range cs.length).all fun j => (match cs[j]? with
    | some c => decide (c < ops.size) && (j == 0 || (match cs[j - 1]?, ops[c]? with | some b, some o => o.after.any fun e => Region.binds .any e && e.on == b | _, _ => false))
    | none => false)
theorem chain_nodup {cs : List Nat} (h : cs.Nodup) {i j c : Nat} (hi : cs[i]? = some c) (hj : cs[j]? = some c) : i = j := by
  obtain ⟨h1, e1⟩ := List.getElem?_eq_some_iff.1 hi; obtain ⟨h2, e2⟩ := List.getElem?_eq_some_iff.1 hj; rcases Nat.lt_trichotomy i j with h3 | h3 | h3
  · exact absurd (e1.trans e2.symm) (List.pairwise_iff_getElem.1 (List.nodup_iff_pairwise_ne.1 h) i j h1 h2 h3)
  · exact h3
  · exact absurd (e2.trans e1.symm) (List.pairwise_iff_getElem.1 (List.nodup_iff_pairwise_ne.1 h) j i h2 h1 h3)
def StepC (P : Program) (ops : Array Oper) (Q : Exit → Act → World → Prop) (cs : List Nat) (St : Nat → World → Prop) (G : World → World → Prop) (a0 : Act) (w0 : World) (L : List (Value → World → Prop)) (i : Nat) (o : Oper) : Prop :=
  ∀ s a w, G w0 w → St s w → (∀ j, cs[j]? = some i → s = j) → Finds ops (fun i => L.getD i AnyV) a0 i o a w → wpOp P ops Q i (fun a' w' => ∃ v, a' = a.put o.dst v ∧ (L.getD i AnyV) v w' ∧ G w w' ∧ (i ∈ cs → St (s + 1) w') ∧ (i ∉ cs → St s w')) a w
theorem step_chain {cs : List Nat} {St : Nat → World → Prop} {G : World → World → Prop} {a0 : Act} {w0 : World} {L : List (Value → World → Prop)} (hcs : cs.Nodup) (hch : chainB ops cs = true) {i : Nat} {o : Oper} (hio : ops[i]? = some o)
    (h : StepC P ops Q cs St G a0 w0 L i o) : StepJ P ops Q (ChainJ cs St) G a0 w0 L i o := by
  intro listed hsz hun hdep a w hG hJ hF; obtain ⟨s, hs, hlist, hst⟩ := hJ
  have hset : ∀ k, (listed.setIfInBounds i true).getD k false = (if k = i ∧ i < listed.size then true else listed.getD k false) := by
    intro k
    by_cases hk : k = i
    · subst hk
      by_cases hl : k < listed.size
      · simp [Array.getD_eq_getD_getElem?, hl]
      · rw [if_neg (fun h => hl h.2)]; simp [Array.getD_eq_getD_getElem?, hl]
    · simp [Array.getD_eq_getD_getElem?, Array.getElem?_setIfInBounds_ne (Ne.symm hk), hk]
  have hil : i < listed.size := by rw [hsz]; exact (Array.getElem?_eq_some_iff.1 hio).1
  have hwhich : ∀ j, cs[j]? = some i → s = j := by
    intro j hj; have h1 : ¬ j < s := fun h => by rw [(hlist j i hj).2 h] at hun; cases hun
    have hjl := (List.getElem?_eq_some_iff.1 hj).1; have hb := List.all_eq_true.1 hch j (by simpa using hjl); simp only [hj, hio, Bool.and_eq_true, Bool.or_eq_true, beq_iff_eq] at hb; rcases hb.2 with h0 | hb2
    · omega
    · cases hbj : cs[j - 1]? with
      | none => rw [hbj] at hb2; cases hb2
      | some b =>
        rw [hbj] at hb2; simp only at hb2; rw [Array.any_eq_true'] at hb2; obtain ⟨e, he, hek⟩ := hb2; simp only [Bool.and_eq_true, beq_iff_eq] at hek; have h2 := hdep e he hek.1; rw [hek.2] at h2; have h3 := (hlist (j - 1) b hbj).1 h2
        by_cases hj0 : j = 0
        · subst hj0; omega
        · omega
  refine wpOp_mono (fun a' w' ⟨v, h1, h2, h3, h4, h5⟩ => ⟨v, h1, h2, h3, ?_⟩) (h s a w hG hst hwhich hF)
  by_cases hic : i ∈ cs
  · obtain ⟨j, hj⟩ := List.getElem?_of_mem hic; have hsj := hwhich j hj; have hjl := (List.getElem?_eq_some_iff.1 hj).1; refine ⟨s + 1, by omega, fun k c hk => ?_, h4 hic⟩; rw [hset c]
    by_cases hci : c = i
    · subst hci; have := chain_nodup hcs hj hk; rw [if_pos ⟨rfl, hil⟩]; constructor
      · intro _; omega
      · intro _; rfl
    · rw [if_neg (fun h => hci h.1), hlist k c hk]; have : k ≠ j := fun e => by subst e; rw [hj] at hk; exact hci (Option.some.inj hk).symm
      omega
  · refine ⟨s, hs, fun k c hk => ?_, h5 hic⟩; rw [hset c, if_neg (fun h => hic (by rw [← h.1]; exact List.mem_of_getElem? hk))]; exact hlist k c hk
theorem wp_region_chain (cs : List Nat) (St : Nat → World → Prop) (G : World → World → Prop) (htrans : ∀ a b c, G a b → G b c → G a c) {id : Nat} {a0 : Act} {w0 : World} (hm : P.follows .mixedOrders = true) (L : List (Value → World → Prop)) (hB : ssaB ops a0.tmps.size = true) (hcs : cs.Nodup) (hch : chainB ops cs = true) (hrefl : G w0.drew w0.drew) (hS : St 0 w0.drew)
    (hL : ∀ φ ∈ L, ∀ v w w', φ v w → G w w' → φ v w')
    (hstep : AllFrom (StepC P ops Q cs St G a0 w0.drew L) 0 ops.toList)
    (hend : ∀ (vs : Nat → Value) w, G w0.drew w → AllFrom (fun i _ => (L.getD i AnyV) (vs i) w) 0 ops.toList → St cs.length w → Q .normal (putAll vs 0 ops.toList a0) w) : (Code.region id ops true).wp P Q a0 w0 := by
  refine wp_region_ssaJL (ChainJ cs St) G htrans hm L hB hrefl ⟨0, Nat.zero_le _, fun j c hj => ?_, hS⟩ hL ?_ (fun vs w hg ha ⟨s, hs, hl, hst⟩ => hend vs w hg ha ?_)
  · constructor
    · intro h; rw [Array.getD_eq_getD_getElem?, Array.getElem?_replicate] at h; split at h <;> simp at h
    · intro h; omega
  · have : ∀ (os : List Oper) (k : Nat), (∀ j o, os[j]? = some o → ops[k + j]? = some o) → AllFrom (StepC P ops Q cs St G a0 w0.drew L) k os → AllFrom (StepJ P ops Q (ChainJ cs St) G a0 w0.drew L) k os := by
      intro os
      induction os with
      | nil => intro k _ _; exact trivial
      | cons o os ih => intro k ho h; exact ⟨step_chain hcs hch (ho 0 o rfl) h.1, ih (k + 1) (fun j o' hj => by have := ho (j + 1) o' hj; rwa [show k + (j + 1) = k + 1 + j by omega] at this) h.2⟩
    exact this ops.toList 0 (fun j o hj => by rw [Nat.zero_add]; simpa using hj) hstep
  · have : s = cs.length := by
      rcases Nat.lt_or_ge s cs.length with h | h
      · exfalso
        obtain ⟨c, hc⟩ : ∃ c, cs[s]? = some c := ⟨_, List.getElem?_eq_getElem h⟩; have hb := List.all_eq_true.1 hch s (by simpa using h); simp only [hc, Bool.and_eq_true, decide_eq_true_eq] at hb; have := (hl s c hc).1 (by simp [hb.1]); omega
      · omega
    rw [← this]; exact hst
theorem stepC_gr {cs : List Nat} {St : Nat → World → Prop} {G : World → World → Prop} {L : List (Value → World → Prop)} {i s : Nat} {o : Oper} {a : Act} {w : World} (hi : (cs.contains i) = false) (hG : ∀ w', Gr w w' → G w w') (hS : ∀ w', Gr w w' → St s w') (h : Step P ops Q L i o a w) :
    wpOp P ops Q i (fun a' w' => ∃ v, a' = a.put o.dst v ∧ (L.getD i AnyV) v w' ∧ G w w' ∧ (i ∈ cs → St (s + 1) w') ∧ (i ∉ cs → St s w')) a w := by
  unfold Step at h; refine wpOp_mono (fun a' w' ⟨v, h1, h2, h3⟩ => ⟨v, h1, h2, hG _ h3, fun h => ?_, fun _ => hS _ h3⟩) h; rw [← List.contains_iff_mem, hi] at h; cases h
theorem stepC_call {cs : List Nat} {St : Nat → World → Prop} {G : World → World → Prop} {L : List (Value → World → Prop)} {i s : Nat} {o : Oper} {a : Act} {w : World} (hi : ops[i]? = some o) (hg : o.guard = none) (hin : cs.contains i = true) (f : FuncId) (args : Array Value) (hrun : (execOp a.eval o).run P w = .ok (.enter f args) w)
    (hc : Calls P f args w fun e w' => ∃ v, e = .returned v ∧ (L.getD i AnyV) v w' ∧ G w w' ∧ St (s + 1) w') :
    wpOp P ops Q i (fun a' w' => ∃ v, a' = a.put o.dst v ∧ (L.getD i AnyV) v w' ∧ G w w' ∧ (i ∈ cs → St (s + 1) w') ∧ (i ∉ cs → St s w')) a w := by
  have hw : Region.wanted o (yielded ops a.tmps) = true := by simp [Region.wanted, hg]
  unfold wpOp; simp only [hi, hw, if_true, Oper.wp, hrun, Oper.upon]; refine .inl (hc.mono ?_); rintro e w' ⟨v, rfl, h1, h2, h3⟩; exact ⟨v, rfl, h1, h2, fun _ => h3, fun h => absurd (List.contains_iff_mem.1 hin) h⟩
end
end Go.Proofs.YtjpphldojbfpfaaGreatDoor
namespace Go.Proofs.YtjpphldojbfpfaaGreatDoor
open Go.RowKit
theorem results_cell_tmp {P : Program} {fn : Func} {p q : Tmp} {ty : TypeId} (h : fn.results = #[.cell p ty, .tmp q]) (tmps : Array Value) (w : World) (g : Nat) (t : TypeId) (cs : Array Value) (fr : Nat × Nat) (d : TypeDesc)
    (hp : tmps.getD p undef = .pointer (some ⟨g, 0, none⟩)) (hg : w.heap[g]? = some (.cells cs t fr))
    (hu : P.underlying ty = some d) (hd : (match d with | .struct _ | .array _ _ => true | _ => false) = true) (hi : (P.info? ty).map (·.size) = some cs.size) :
    (results fn tmps).run P w = .ok (.tuple #[.agg cs, tmps.getD q undef]) w := by
  have hp' : tmps[p]?.getD undef = .pointer (some ⟨g, 0, none⟩) := by simpa using hp
  simp [results, h, hp', asAddr, run_loadVar_row w g t ty cs fr d hg hu hd hi]
end Go.Proofs.YtjpphldojbfpfaaGreatDoor
namespace Go.Proofs.YtjpphldojbfpfaaGreatDoor
abbrev DotM := Nat × Nat
def dLt (a b : DotM) : Prop := a.1 < b.1 ∨ (a.1 = b.1 ∧ a.2 < b.2)
instance (a b : DotM) : Decidable (dLt a b) := by unfold dLt; infer_instance
theorem dLt_irrefl (a : DotM) : ¬ dLt a a := by unfold dLt; omega
theorem dLt_trans {a b c : DotM} (h : dLt a b) (k : dLt b c) : dLt a c := by unfold dLt at *; omega
theorem dLt_total (a b : DotM) : dLt a b ∨ a = b ∨ dLt b a := by
  obtain ⟨a1, a2⟩ := a; obtain ⟨b1, b2⟩ := b; unfold dLt; simp only [Prod.mk.injEq]; omega
structure CtxM where
  upto : List Nat
  more : List DotM
def upOf (c : CtxM) (k : Nat) : Nat := c.upto.getD (k - 1) 0
def rightD (d : DotM) : Prop := 1 ≤ d.1 ∧ d.1 ≤ 16 ∧ 1 ≤ d.2 ∧ d.2 ≤ 1099511627776
def hasC (c : CtxM) (d : DotM) : Prop := d.2 ≤ upOf c d.1 ∨ d ∈ c.more
instance (c : CtxM) (d : DotM) : Decidable (hasC c d) := by unfold hasC; infer_instance
structure OkC (c : CtxM) : Prop where
  len : c.upto.length = 16
  small : ∀ n ∈ c.upto, n ≤ 1099511627776
  few : c.more.length ≤ 32
  right : ∀ d ∈ c.more, rightD d ∧ upOf c d.1 + 1 < d.2
  sorted : c.more.Pairwise dLt
def tidyStep (c : CtxM) (d : DotM) : CtxM :=
  if d.2 = upOf c d.1 + 1 then ⟨c.upto.set (d.1 - 1) d.2, c.more⟩
  else if upOf c d.1 < d.2 ∧ d ∉ c.more then ⟨c.upto, c.more ++ [d]⟩
  else c
structure Tidy (upto : List Nat) (S : List DotM) (c : CtxM) : Prop where
  len : c.upto.length = 16
  small : ∀ n ∈ c.upto, n ≤ 1099511627776
  grow : ∀ k, upto.getD (k - 1) 0 ≤ upOf c k
  few : c.more.length ≤ S.length
  mem : ∀ d ∈ c.more, d ∈ S
  gap : ∀ d ∈ c.more, upOf c d.1 + 1 < d.2
  sorted : c.more.Pairwise dLt
  has : ∀ d, rightD d → (hasC c d ↔ (d.2 ≤ upto.getD (d.1 - 1) 0 ∨ d ∈ S))
theorem Tidy.start {upto : List Nat} (hl : upto.length = 16) (hs : ∀ n ∈ upto, n ≤ 1099511627776) : Tidy upto [] ⟨upto, []⟩ :=
  ⟨hl, hs, fun _ => Nat.le_refl _, Nat.le_refl _, fun _ h => (by cases h), fun _ h => (by cases h), List.Pairwise.nil, fun d _ => by
    unfold hasC upOf; exact Iff.rfl⟩
theorem getD_set {l : List Nat} {i j v : Nat} (hi : i < l.length) : (l.set i v).getD j 0 = if j = i then v else l.getD j 0 := by
  rw [List.getD_eq_getElem?_getD, List.getD_eq_getElem?_getD, List.getElem?_set]
  by_cases e : i = j
  · subst e; rw [if_pos rfl, if_pos rfl, if_pos hi]; rfl
  · rw [if_neg e, if_neg (fun q => e q.symm)]
theorem Tidy.step {upto : List Nat} {S : List DotM} {c : CtxM} {d : DotM} (h : Tidy upto S c) (hS : ∀ x ∈ S, rightD x ∧ ¬ dLt d x) (hd : rightD d) : Tidy upto (S ++ [d]) (tidyStep c d) := by
  unfold tidyStep; obtain ⟨h1, h2, h3, h4, h5, h6, h7, h8⟩ := h; have hd1 : d.1 - 1 < c.upto.length := by rw [h1]; unfold rightD at hd; omega
  split
  · rename_i hn
    have hup : ∀ k, 1 ≤ k → upOf ⟨c.upto.set (d.1 - 1) d.2, c.more⟩ k = if k = d.1 then d.2 else upOf c k := by
      intro k hk; unfold upOf; simp only; rw [getD_set hd1]
      by_cases e : k = d.1
      · rw [if_pos (by omega), if_pos e]
      · rw [if_neg (by unfold rightD at hd; omega), if_neg e]
    have hno : ∀ x ∈ c.more, x.1 ≠ d.1 := by
      intro x hx e; have hg := h6 x hx; have hl := (hS x (h5 x hx)).2; rw [e] at hg; unfold dLt at hl; omega
    refine ⟨by simpa using h1, ?_, ?_, ?_, fun x hx => List.mem_append_left _ (h5 x hx), ?_, h7, ?_⟩
    · intro n hn2; simp only at hn2; rcases List.mem_or_eq_of_mem_set hn2 with hm | hm
      · exact h2 n hm
      · rw [hm]; exact hd.2.2.2
    · intro k; have hk := h3 k; unfold upOf at hk ⊢; simp only; rw [getD_set hd1]; split
      · rename_i e
        rw [e] at hk; rw [e]; unfold upOf at hn; omega
      · exact hk
    · rw [List.length_append]; exact Nat.le_trans h4 (Nat.le_add_right _ _)
    · intro x hx; rw [hup x.1 (hS x (h5 x hx)).1.1, if_neg (hno x hx)]; exact h6 x hx
    · intro x hx; have h8x := h8 x hx; unfold hasC at h8x ⊢; rw [hup x.1 hx.1]; simp only [List.mem_append, List.mem_singleton]; have : x.1 = d.1 → x.2 = d.2 → x = d := fun e1 e2 => Prod.ext e1 e2
      by_cases e : x.1 = d.1
      · rw [if_pos e]; rw [e] at h8x; constructor
        · rintro (q | q)
          · rcases Nat.lt_or_eq_of_le q with q | q
            · rcases h8x.1 (.inl (by omega)) with r | r
              · exact .inl (by rw [e]; exact r)
              · exact .inr (.inl r)
            · exact .inr (.inr (this e q))
          · rcases h8x.1 (.inr q) with r | r
            · exact .inl (by rw [e]; exact r)
            · exact .inr (.inl r)
        · rintro (q | q | q)
          · rcases h8x.2 (.inl (by rw [e] at q; exact q)) with r | r
            · exact .inl (by omega)
            · exact .inr r
          · rcases h8x.2 (.inr q) with r | r
            · exact .inl (by omega)
            · exact .inr r
          · subst q; exact .inl (Nat.le_refl _)
      · rw [if_neg e]; rw [h8x]; constructor
        · rintro (q | q)
          · exact .inl q
          · exact .inr (.inl q)
        · rintro (q | q | q)
          · exact .inl q
          · exact .inr q
          · exact absurd (by rw [q]) e
  · rename_i hn
    split
    · rename_i hm
      obtain ⟨hm1, hm2⟩ := hm; refine ⟨h1, h2, h3, ?_, ?_, ?_, ?_, ?_⟩
      · simp only [List.length_append, List.length_singleton]; omega
      · intro x hx; rcases List.mem_append.1 hx with hx | hx
        · exact List.mem_append_left _ (h5 x hx)
        · exact List.mem_append_right _ hx
      · intro x hx; have hsame : upOf ⟨c.upto, c.more ++ [d]⟩ x.1 = upOf c x.1 := rfl; rw [hsame]; rcases List.mem_append.1 hx with hx | hx
        · exact h6 x hx
        · have : x = d := by simpa using hx
          subst this; omega
      · refine List.pairwise_append.2 ⟨h7, List.pairwise_singleton _ _, fun x hx y hy => ?_⟩; have : y = d := by simpa using hy
        subst this; rcases dLt_total x y with q | q | q
        · exact q
        · exact absurd (q ▸ hx) hm2
        · exact absurd q (hS x (h5 x hx)).2
      · intro x hx; have h8x := h8 x hx; unfold hasC at h8x ⊢; have hsame : upOf ⟨c.upto, c.more ++ [d]⟩ x.1 = upOf c x.1 := rfl; rw [hsame]; simp only [List.mem_append, List.mem_singleton]; rw [← or_assoc, h8x, or_assoc]
    · rename_i hm
      have hin : hasC c d := by
        unfold hasC
        by_cases q : d ∈ c.more
        · exact .inr q
        · refine .inl ?_; have : ¬ upOf c d.1 < d.2 := fun r => hm ⟨r, q⟩; omega
      refine ⟨h1, h2, h3, ?_, fun x hx => List.mem_append_left _ (h5 x hx), h6, h7, ?_⟩
      · rw [List.length_append]; exact Nat.le_trans h4 (Nat.le_add_right _ _)
      · intro x hx; rw [h8 x hx]; simp only [List.mem_append, List.mem_singleton]; constructor
        · rintro (q | q)
          · exact .inl q
          · exact .inr (.inl q)
        · rintro (q | q | q)
          · exact .inl q
          · exact .inr q
          · subst q; exact (h8 x hx).1 hin
end Go.Proofs.YtjpphldojbfpfaaGreatDoor
namespace Go.Proofs.YtjpphldojbfpfaaGreatDoor
abbrev WrM := DotM × CtxM
section
variable {W : List WrM}
end
end Go.Proofs.YtjpphldojbfpfaaGreatDoor
namespace Go.Proofs.YtjpphldojbfpfaaGreatDoor
open Go.ChangeShapes Go.WideShapes Go.ChangeAt Go.RowKit
section
variable {H : Type} {enc : TypeId × Value → H} {P : Program} {w : World} {base : Nat} {held : Bool}
end
theorem laid_is : ([("casket/sha2.keys", Rows.laid_casket_sha2_keys), ("casket/sha2.start", Rows.laid_casket_sha2_start)] : List (String × DataW Unit)) = [("casket/sha2.keys", Lib.tabData .u32 (keysL.map fun x => (x.toNat : Int))), ("casket/sha2.start", Lib.tabData .u32 (startL.map fun x => (x.toNat : Int)))] := by kernel_rfl
theorem gKeys : Tryz.prog.globalNamed "casket/sha2.keys" = some 1 := by kernel_rfl
theorem gStart : Tryz.prog.globalNamed "casket/sha2.start" = some 0 := by kernel_rfl
theorem tKeys : (Tryz.prog.globals[(1 : Nat)]?).map (·.type) = some 165 := by kernel_rfl
theorem tStart : (Tryz.prog.globals[(0 : Nat)]?).map (·.type) = some 120 := by kernel_rfl
theorem range_of_tab {P : Program} {W : World} {name : String} {l : List UInt32} {g : Nat} (h : Lib.TabIs P W name .u32 (l.map fun x => (x.toNat : Int))) (hg : P.globalNamed name = some g) : W.rangeAt g 0 (u32s l) := by
  intro j v hv; have := World.var?_cell hg h j; rw [Nat.zero_add, this]; simpa [u32s] using hv
theorem glob_of_laid {W : World} (h : laidMetH Tryz.prog [("casket/sha2.keys", Rows.laid_casket_sha2_keys), ("casket/sha2.start", Rows.laid_casket_sha2_start)] W) : Glob W := by
  rw [laid_is, MakeChecks.laidMetH_plain _ _ _ (by kernel_rfl)] at h; have h1 := Lib.tabIs_of_head gKeys tKeys Tryz.underlying165 Tryz.underlying119 (by kernel_rfl) (by kernel_rfl) h; have h2 := Lib.tabIs_of_head gStart tStart Tryz.underlying120 Tryz.underlying119 (by kernel_rfl) (by kernel_rfl) (laidMet.tail h); exact ⟨range_of_tab h2 gStart, range_of_tab h1 gKeys⟩
end Go.Proofs.YtjpphldojbfpfaaGreatDoor
namespace Go.Proofs.YtjpphldojbfpfaaGreatDoor
open Go.RowKit
theorem own_empty (w : World) : (w.alloc (.cells #[] 5)).ownsRow w.heap.size 5 1 (.slice (some ⟨w.heap.size, 0, none⟩) 0 0) 0 [] :=
  ⟨rfl, .inr ⟨w.heap.size, 0, #[], rfl, Nat.le_refl _, (Arr.newAt (l := []) rfl rfl), Nat.le_refl _, by unfold maxLen; omega, rfl, rfl⟩⟩
set_option maxRecDepth 100000 in
set_option maxHeartbeats 4000000 in
theorem bclone_any {A : Option Addr} {n c : Nat} {l : List UInt8} (hn : n ≤ 1000000) {w : World} (hr : Rd w A n (u8s l)) (hA : A = none → c = 0) :
    Calls Tryz.prog 79 #[.slice A n c] w fun e w' => ∃ A' c', e = .returned (.slice A' n c') ∧ w'.ownsRow w.heap.size 5 1 (.slice A' n c') n (u8s l) ∧ (A' = none → c' = 0) ∧ Gr w w' := by
  obtain ⟨i0, hi0, hz0, hz1, hz2⟩ := info_parts Tryz.info5; cases A with
  | none =>
    have hc := hA rfl; subst hc
    have hl : l = [] := by
      cases l with
      | nil => rfl
      | cons u l =>
        obtain ⟨_, e, _⟩ := hr.2 0 (.int .u8 (u.toNat : Int)) rfl; cases e
    subst hl; have hn0 : n = 0 := by have := hr.1; simpa using this.symm
    subst hn0; have he : ∀ w : World, (binOp .eql 43 (.slice none 0 0) (.slice none 0 0)).run Tryz.prog w = .ok (.bool true) w := fun _ => rfl
    go_enter Tryz.func79, Tryz.ntmps79
    go_wp2_with fail
    go_ret
    exact ⟨none, 0, rfl, World.ownsRow_nil _ _ _ _, fun _ => rfl, Gr.refl _⟩
  | some ad =>
    clear hA; have he : ∀ w : World, (binOp .eql 43 (.slice (some ad) n c) (.slice none 0 0)).run Tryz.prog w = .ok (.bool false) w := fun _ => rfl
    go_enter Tryz.func79, Tryz.ntmps79
    go_wp2_with (at_builtin; go_must (refine wpList_app _ rfl (.tmp 5) (.tmp 6) 43 rfl w.heap.size 5 i0 (.int .u8 0) 1 Tryz.underlying43 hi0 hz0 hz1 hz2 rfl _ 0 _ rfl (own_empty w) (some ad) n c _ rfl (hr.alloc _) (u8s_oneCell _) (by omega) (by unfold maxLen; omega) (by simp) ?_))
    intro v1 w1 hA1; have ho := hA1.own; have hG : Gr w w1 := Below.trans (Gr.alloc w _) (hA1.below (own_empty w) (by simp)); clear hA1
    have hv : ∃ A c, v1 = .slice A n c ∧ (A = none → c = 0) := by
      rcases ho.2 with ⟨rfl, rfl⟩ | ⟨g, cap, cur, rfl, _⟩
      · exact ⟨_, _, rfl, fun _ => rfl⟩
      · exact ⟨_, _, rfl, fun h => by cases h⟩
    obtain ⟨A', c', rfl, hn0⟩ := hv; have HO := Lib.hid ho; have HN := Lib.hid hn0; clear ho hn0; go_simp; go_wp2_with fail
    go_ret
    exact ⟨A', c', rfl, HO.out, HN.out, hG⟩
end Go.Proofs.YtjpphldojbfpfaaGreatDoor
