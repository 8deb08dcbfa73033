/- Five rows of nodes in a variable of their own. No condition. -/
import Derived.Test.YtamhjhkmckefbaaDoorMkSetR
import Derived.Test.YtamhjhkmckefbaaDoorKitN
namespace Go.Proofs.YtamhjhkmckefbaaDoor
open Go.RowKit
def RowsAt (w : World) (g : Nat) (N : Nat → Nat → List UInt8) : Prop := Arr w g 55 (nodesT N)
def wasT (g : Nat) : Nat → Obj → Bool := fun k o => match o with | .cells _ t _ => k == g && t == 55 | _ => false
section
variable {w : World} {g : Nat} {N : Nat → Nat → List UInt8}
theorem RowsAt.range (h : RowsAt w g N) (hF : Full N) {l a : Nat} (hl : l < 5) (ha : a < 256) : w.rangeAt g (l * 8192 + a * 32) (u8s (N l a)) := fun j x hj => Arr.cell h (by
  have hj32 : j < 32 := by
    have := (List.getElem?_eq_some_iff.1 hj).1
    rwa [u8s_length, hF] at this
  rw [nodesT_get hF hl ha hj32]
  exact hj)
theorem RowsAt.there (h : RowsAt w g N) (hF : Full N) {l a : Nat} (hl : l < 5) (ha : a < 256) : w.there g (l * 8192 + a * 32) 32 := fun j hj => by
  have h1 := Arr.there h (l * 8192 + a * 32 + j) (by rw [nodesT_length hF]; omega)
  rw [Nat.zero_add] at h1
  exact h1
theorem RowsAt.set (h : RowsAt w g N) (hF : Full N) {l a : Nat} (hl : l < 5) (ha : a < 256) {d : List UInt8} (hd : d.length = 32) : RowsAt (w.setCells g (l * 8192 + a * 32) (u8s d)) g (updN N l a d) := by
  have hA := Arr.setCells_from (u8s d) (l * 8192 + a * 32) w _ h (by rw [nodesT_length hF, u8s_length, hd]; omega)
  unfold RowsAt
  rw [← nodesT_set hF hl ha hd]
  rw [u8s_length, hd] at hA
  exact hA
end
/-- What was told of the nodes ahead of (l, q). -/
def WasR (B g : Nat) (R : Rw) (w0 : World) (l q : Nat) (w : World) : Prop :=
  ∃ N, RowsAt w g N ∧ Full N ∧ (∀ x a, x < 5 → a < 4 ^ x → (x < l ∨ (x = l ∧ a < q)) → N x a = nodeR R (4 - x) a) ∧ Tn (wasT g) B w0 w
theorem WasR.row {B g : Nat} {R : Rw} {w0 : World} {l q : Nat} {w : World} (h : WasR B g R w0 l q w) (hq : 4 ^ l ≤ q) : WasR B g R w0 (l + 1) 0 w := by
  obtain ⟨N, h1, h2, h3, h4⟩ := h
  refine ⟨N, h1, h2, fun x a hx ha hc => h3 x a hx ha ?_, h4⟩
  rcases hc with hc | hc
  · rcases Nat.lt_or_ge x l with h5 | h5
    · exact .inl h5
    · have : x = l := by omega
      subst this
      exact .inr ⟨rfl, by omega⟩
  · omega
theorem WasR.next {B g : Nat} {R : Rw} {w0 : World} {l q : Nat} {w w1 : World} (h : WasR B g R w0 l q w) (hG : Gr w w1) (hB : B ≤ g) (hl : l < 5) (hq : q < 4 ^ l) : WasR B g R w0 l (q + 1) (w1.setCells g (l * 8192 + q * 32) (u8s (nodeR R (4 - l) q))) := by
  have hq2 : q < 256 := Nat.lt_of_lt_of_le hq (Nat.pow_le_pow_right (by omega) (by omega : l ≤ 4))
  obtain ⟨N, h1, h2, h3, h4⟩ := h
  have h5 : RowsAt w1 g N := Arr.gr h1 hG
  refine ⟨_, h5.set h2 hl hq2 (nodeR_length R _ _), updN_full h2 (nodeR_length R _ _), fun x a hx ha hc => ?_, h4.trans ((Tn.of_gr hG).trans (Tn.setCells hB (fun C f => by simp [wasT]) _ _ _ _ h5))⟩
  unfold updN
  by_cases e : x = l ∧ a = q
  · rw [if_pos e, e.1, e.2]
  · rw [if_neg e]
    refine h3 x a hx ha ?_
    rcases hc with hc | hc
    · exact .inl hc
    · refine .inr ⟨hc.1, ?_⟩
      have : a ≠ q := fun q1 => e ⟨hc.1, q1⟩
      omega
section
variable {P : Program} {ops : Array Oper} {Q : Exit → Act → World → Prop}
/-- A drawn region, each operation told once, for any relation between its worlds. -/
theorem wp_region_ssaG (G : World → World → Prop) (htrans : ∀ a b c, G a b → G b c → G a c) {id : Nat} {a0 : Act} {w0 : World} (hm : P.follows .mixedOrders = true) (L : List (Value → World → Prop)) (hB : ssaB ops a0.tmps.size = true) (hrefl : G w0.drew w0.drew)
    (hL : ∀ φ ∈ L, ∀ v w w', φ v w → G w w' → φ v w')
    (hstep : AllFrom (StepL P ops Q a0 w0.drew G L) 0 ops.toList)
    (hend : ∀ (vs : Nat → Value) w, G w0.drew w → AllFrom (fun i _ => (L.getD i AnyV) (vs i) w) 0 ops.toList → Q .normal (putAll vs 0 ops.toList a0) w) : (Code.region id ops true).wp P Q a0 w0 := by
  refine wp_region_ssa hm (fun i => L.getD i AnyV) G htrans (fun i v w w' h hg => ?_) hB hrefl (fun i o hi a w => ops_all hstep i o hi a w) (fun vs w hg h => hend vs w hg ?_)
  · rcases Nat.lt_or_ge i L.length with hlt | hge
    · simp only [List.getD_eq_getElem?_getD, List.getElem?_eq_getElem hlt, Option.getD_some] at h ⊢
      exact hL _ (List.getElem_mem hlt) v w w' h hg
    · simp only [List.getD_eq_getElem?_getD, List.getElem?_eq_none hge, Option.getD_none] at h ⊢
      exact trivial
  · have hall : ∀ (os : List Oper) (k : Nat), k + os.length ≤ ops.size → AllFrom (fun i _ => (L.getD i AnyV) (vs i) w) k os := by
      intro os
      induction os with
      | nil => intro k _; exact trivial
      | cons o os ih => intro k hk; simp at hk; exact ⟨h k (by omega), ih (k + 1) (by omega)⟩
    exact hall _ 0 (by simp)
variable {L : List (Value → World → Prop)} {i : Nat} {o : Oper} {a : Act} {w : World} {G : World → World → Prop}
theorem g_stepR (hG : ∀ w', Gr w w' → G w w') (h : Step P ops Q L i o a w) : wpOp P ops Q i (fun a' w' => ∃ v, a' = a.put o.dst v ∧ (L.getD i AnyV) v w' ∧ G w w') a w := by
  unfold Step at h
  exact wpOp_mono (fun a' w' ⟨v, h1, h2, h3⟩ => ⟨v, h1, h2, hG _ h3⟩) h
theorem g_wpR (hi : ops[i]? = some o) (hg : o.guard = none) (h : o.wp P a w (fun a' w' => ∃ v, a' = a.put o.dst v ∧ (L.getD i AnyV) v w' ∧ G w w') Q) : wpOp P ops Q i (fun a' w' => ∃ v, a' = a.put o.dst v ∧ (L.getD i AnyV) v w' ∧ G w w') a w := by
  have hw : Region.wanted o (yielded ops a.tmps) = true := by simp [Region.wanted, hg]
  unfold wpOp
  simp only [hi, hw, if_true]
  exact .inl h
end
/-- While one node is told: it is told, or not yet. -/
structure GW (B g l q : Nat) (R : Rw) (w0 w w' : World) : Prop where
  tn : Tn (wasT g) B w w'
  old : WasR B g R w0 l q w → WasR B g R w0 l q w'
  new : WasR B g R w0 l (q + 1) w → WasR B g R w0 l (q + 1) w'
section
variable {B g l q : Nat} {R : Rw} {w0 w w' : World}
theorem WasR.gr (h : WasR B g R w0 l q w) (hG : Gr w w') : WasR B g R w0 l q w' := by
  obtain ⟨N, h1, h2, h3, h4⟩ := h
  exact ⟨N, Arr.gr h1 hG, h2, h3, h4.trans (Tn.of_gr hG)⟩
theorem GW.of_gr (h : Gr w w') : GW B g l q R w0 w w' := ⟨Tn.of_gr h, fun k => k.gr h, fun k => k.gr h⟩
theorem GW.refl (w : World) : GW B g l q R w0 w w := GW.of_gr (Gr.refl w)
theorem GW.trans {a b c : World} (h : GW B g l q R w0 a b) (k : GW B g l q R w0 b c) : GW B g l q R w0 a c := ⟨h.tn.trans k.tn, fun x => k.old (h.old x), fun x => k.new (h.new x)⟩
theorem WasR.less (h : WasR B g R w0 l (q + 1) w) : WasR B g R w0 l q w := by
  obtain ⟨N, h1, h2, h3, h4⟩ := h
  exact ⟨N, h1, h2, fun x a hx ha hc => h3 x a hx ha (hc.imp id fun c => ⟨c.1, by omega⟩), h4⟩
/-- The node is told. -/
theorem GW.store (hB : B ≤ g) (hl : l < 5) (hq : q < 4 ^ l) (h : WasR B g R w0 l q w) : GW B g l q R w0 w (w.setCells g (l * 8192 + q * 32) (u8s (nodeR R (4 - l) q))) ∧ WasR B g R w0 l (q + 1) (w.setCells g (l * 8192 + q * 32) (u8s (nodeR R (4 - l) q))) := by
  have hn := h.next (Gr.refl w) hB hl hq
  obtain ⟨N, h1, h2, h3, h4⟩ := h
  exact ⟨⟨Tn.setCells hB (fun C f => by simp [wasT]) _ _ _ _ h1, fun _ => hn.less, fun _ => hn⟩, hn⟩
end
theorem pow_256 {l q : Nat} (hl : l < 5) (hq : q < 4 ^ l) : q < 256 := Nat.lt_of_lt_of_le hq (Nat.pow_le_pow_right (by omega) (by omega : l ≤ 4))
end Go.Proofs.YtamhjhkmckefbaaDoor
