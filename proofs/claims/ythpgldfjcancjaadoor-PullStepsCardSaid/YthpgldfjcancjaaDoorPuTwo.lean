/- Two new blocks, each stored to once, in any order. No condition. -/
import Derived.Test.YthpgldfjcancjaaDoorSsaJ
import Derived.Test.YthpgldfjcancjaaDoorKitA
import Derived.Test.YthpgldfjcancjaaDoorPuTell
namespace Go.Proofs.YthpgldfjcancjaaDoor
open Go.RowKit
theorem Arr.otherCells' {g g' : Nat} {t : TypeId} {cs : List Value} (hne : g ≠ g') : ∀ (vs : List Value) (o : Nat) (w : World), Arr w g t cs → Arr (w.setCells g' o vs) g t cs
  | [], _, _, h => h
  | v :: vs, o, _, h => Arr.otherCells' hne vs (o + 1) _ (h.other hne v)
theorem tmp_of {x : Option Value} {v u : Value} (h : x = some u) (e : x = some v) : v = u := by rw [e] at h; injection h
structure TwoJ (N : Nat) (T : TypeId) (Z X Y : List Value) (s t : Tmp) (i j k l : Nat) (listed : Array Bool) (a : Act) (w : World) : Prop where
  size : N ≤ w.heap.size
  ki : listed.getD k false = true → listed.getD i false = true
  lj : listed.getD l false = true → listed.getD j false = true
  one : listed.getD i false = true → ∃ g, a.tmps[s]? = some (.pointer (some ⟨g, 0, none⟩)) ∧ N ≤ g ∧ Arr w g T (if listed.getD k false = true then X else Z)
  two : listed.getD j false = true → ∃ g, a.tmps[t]? = some (.pointer (some ⟨g, 0, none⟩)) ∧ N ≤ g ∧ Arr w g T (if listed.getD l false = true then Y else Z)
  ne : listed.getD i false = true → listed.getD j false = true → ∀ g g', a.tmps[s]? = some (.pointer (some ⟨g, 0, none⟩)) → a.tmps[t]? = some (.pointer (some ⟨g', 0, none⟩)) → g ≠ g'
section
variable {N : Nat} {T : TypeId} {Z X Y : List Value} {s t : Tmp} {i j k l : Nat} {listed : Array Bool} {a : Act} {w w' : World}
theorem TwoJ.swap (h : TwoJ N T Z X Y s t i j k l listed a w) : TwoJ N T Z Y X t s j i l k listed a w := ⟨h.size, h.lj, h.ki, h.two, h.one, fun h1 h2 g g' e1 e2 e => h.ne h2 h1 g' g e2 e1 e.symm⟩
theorem getD_set {m n : Nat} (hm : m < listed.size) : (listed.setIfInBounds m true).getD n false = (if n = m then true else listed.getD n false) := by
  by_cases hk : n = m
  · subst hk; simp [Array.getD_eq_getD_getElem?, Array.getElem?_setIfInBounds_self_of_lt hm]
  · simp [Array.getD_eq_getD_getElem?, Array.getElem?_setIfInBounds_ne (Ne.symm hk), hk]
theorem TwoJ.still (h : TwoJ N T Z X Y s t i j k l listed a w) (hG : Gr w w') {m : Nat} (hm : m < listed.size) (m1 : m ≠ i) (m2 : m ≠ j) (m3 : m ≠ k) (m4 : m ≠ l) {d : Option Tmp} {v : Value} (d1 : d ≠ some s) (d2 : d ≠ some t) : TwoJ N T Z X Y s t i j k l (listed.setIfInBounds m true) (a.put d v) w' := by
  have e : ∀ n, n ≠ m → (listed.setIfInBounds m true).getD n false = listed.getD n false := fun n hn => by rw [getD_set hm, if_neg hn]
  refine ⟨Nat.le_trans h.size hG.size, ?_, ?_, ?_, ?_, ?_⟩
  · rw [e k m3.symm, e i m1.symm]; exact h.ki
  · rw [e l m4.symm, e j m2.symm]; exact h.lj
  · rw [e k m3.symm, e i m1.symm, put_get a d v s d1]
    intro hi
    obtain ⟨g, h1, h2, h3⟩ := h.one hi
    exact ⟨g, h1, h2, h3.gr hG⟩
  · rw [e l m4.symm, e j m2.symm, put_get a d v t d2]
    intro hi
    obtain ⟨g, h1, h2, h3⟩ := h.two hi
    exact ⟨g, h1, h2, h3.gr hG⟩
  · rw [e i m1.symm, e j m2.symm, put_get a d v s d1, put_get a d v t d2]
    exact h.ne
theorem TwoJ.new (h : TwoJ N T Z X Y s t i j k l listed a w) (hm : i < listed.size) (hi : listed.getD i false = false) (ij : i ≠ j) (ik : i ≠ k) (il : i ≠ l) (st : s ≠ t) (hs : s < a.tmps.size) (C : Array Value) (hC : C.toList = Z) :
    TwoJ N T Z X Y s t i j k l (listed.setIfInBounds i true) (a.put (some s) (.pointer (some ⟨w.heap.size, 0, none⟩))) (w.alloc (.cells C T)) := by
  have e : ∀ n, n ≠ i → (listed.setIfInBounds i true).getD n false = listed.getD n false := fun n hn => by rw [getD_set hm, if_neg hn]
  have ei : (listed.setIfInBounds i true).getD i false = true := by rw [getD_set hm, if_pos rfl]
  have hk : listed.getD k false = false := by
    cases hk : listed.getD k false with
    | false => rfl
    | true => rw [h.ki hk] at hi; cases hi
  have pt : (a.put (some s) (.pointer (some ⟨w.heap.size, 0, none⟩))).tmps[t]? = a.tmps[t]? := put_get a _ _ t (fun e => st (by injection e))
  have ps : (a.put (some s) (.pointer (some ⟨w.heap.size, 0, none⟩))).tmps[s]? = some (.pointer (some ⟨w.heap.size, 0, none⟩)) := put_at a s _ hs
  refine ⟨Nat.le_trans h.size (Gr.alloc w _).size, fun _ => ei, ?_, ?_, ?_, ?_⟩
  · rw [e l il.symm, e j ij.symm]; exact h.lj
  · intro _
    rw [e k ik.symm, hk]
    exact ⟨_, ps, h.size, Arr.newAt rfl hC⟩
  · rw [e l il.symm, e j ij.symm, pt]
    intro hj
    obtain ⟨g, h1, h2, h3⟩ := h.two hj
    exact ⟨g, h1, h2, h3.gr (Gr.alloc _ _)⟩
  · rw [e j ij.symm, pt, ps]
    intro _ hj g g' e1 e2
    obtain ⟨g2, h1, _, h3⟩ := h.two hj
    rw [h1] at e2
    injection e1 with e1; injection e1 with e1; injection e1 with e1; injection e1 with e1
    injection e2 with e2; injection e2 with e2; injection e2 with e2; injection e2 with e2
    have := h3.lt
    omega
theorem TwoJ.told (h : TwoJ N T Z X Y s t i j k l listed a w) (hm : k < listed.size) (hi : listed.getD i false = true) (hk : listed.getD k false = false) (ik : i ≠ k) (jk : j ≠ k) (kl : k ≠ l) (hl : X.length = Z.length) {g : Nat} (hg : a.tmps[s]? = some (.pointer (some ⟨g, 0, none⟩))) (v : Value) :
    TwoJ N T Z X Y s t i j k l (listed.setIfInBounds k true) (a.put none v) (w.setCells g 0 X) ∧ Arr w g T Z ∧ N ≤ g := by
  have e : ∀ n, n ≠ k → (listed.setIfInBounds k true).getD n false = listed.getD n false := fun n hn => by rw [getD_set hm, if_neg hn]
  have ek : (listed.setIfInBounds k true).getD k false = true := by rw [getD_set hm, if_pos rfl]
  obtain ⟨g1, h1, h2, h3⟩ := h.one hi
  rw [hg] at h1
  injection h1 with h1; injection h1 with h1; injection h1 with h1; injection h1 with h1
  subst h1
  rw [hk] at h3
  have h3 : Arr w g T Z := h3
  refine ⟨⟨Nat.le_trans h.size (below_setCells (Nat.le_refl g) _ _ _).size, fun _ => by rw [e i ik]; exact hi, ?_, ?_, ?_, ?_⟩, h3, h2⟩
  · rw [e l kl.symm, e j jk]; exact h.lj
  · intro _
    rw [ek]
    exact ⟨g, hg, h2, h3.setAll X hl⟩
  · rw [e l kl.symm, e j jk]
    intro hj
    obtain ⟨g', p1, p2, p3⟩ := h.two hj
    exact ⟨g', p1, p2, p3.otherCells' (h.ne hi hj g g' hg p1).symm X 0⟩
  · rw [e i ik, e j jk]
    exact h.ne
theorem TwoJ.pure {P : Program} {ops : Array Oper} {Q : Exit → Act → World → Prop} {L : List (Value → World → Prop)} {m : Nat} {o : Oper} (h : Step P ops Q L m o a w) (hJ : TwoJ N T Z X Y s t i j k l listed a w) (hm : m < listed.size) (m1 : m ≠ i) (m2 : m ≠ j) (m3 : m ≠ k) (m4 : m ≠ l) (d1 : o.dst ≠ some s) (d2 : o.dst ≠ some t) :
    wpOp P ops Q m (fun a' w' => ∃ v, a' = a.put o.dst v ∧ (L.getD m AnyV) v w' ∧ Below N w w' ∧ TwoJ N T Z X Y s t i j k l (listed.setIfInBounds m true) a' w') a w := by
  unfold Step at h
  exact wpOp_mono (fun a' w' ⟨v, h1, h2, h3⟩ => ⟨v, h1, h2, Below.mono h3 hJ.size, by rw [h1]; exact hJ.still h3 hm m1 m2 m3 m4 d1 d2⟩) h
theorem TwoJ.alloc {P : Program} {ops : Array Oper} {Q : Exit → Act → World → Prop} {L : List (Value → World → Prop)} {o : Oper} {C : Array Value} (hi : ops[i]? = some o) (hg : o.guard = none) (hd : o.dst = some s) (hrun : (execOp a.eval o).run P w = .ok (.value (.pointer (some ⟨w.heap.size, 0, none⟩))) (w.alloc (.cells C T))) (hφ : L.getD i AnyV = AnyV)
    (hJ : TwoJ N T Z X Y s t i j k l listed a w) (hm : i < listed.size) (hun : listed.getD i false = false) (ij : i ≠ j) (ik : i ≠ k) (il : i ≠ l) (st : s ≠ t) (hs : s < a.tmps.size) (hC : C.toList = Z) :
    wpOp P ops Q i (fun a' w' => ∃ v, a' = a.put o.dst v ∧ (L.getD i AnyV) v w' ∧ Below N w w' ∧ TwoJ N T Z X Y s t i j k l (listed.setIfInBounds i true) a' w') a w := by
  have hw : Region.wanted o (yielded ops a.tmps) = true := by simp [Region.wanted, hg]
  unfold wpOp
  simp only [hi, hw, if_true, Oper.wp, hrun, Oper.upon]
  refine .inl ⟨_, rfl, by rw [hφ]; trivial, Below.mono (Gr.alloc w _) hJ.size, ?_⟩
  rw [hd]
  exact hJ.new hm hun ij ik il st hs C hC
theorem wpOp_of {P : Program} {ops : Array Oper} {Q : Exit → Act → World → Prop} {o : Oper} (Post : Act → World → Prop) (hi : ops[i]? = some o) (hg : o.guard = none) (h : o.wp P a w Post Q) : wpOp P ops Q i Post a w := by
  have hw : Region.wanted o (yielded ops a.tmps) = true := by simp [Region.wanted, hg]
  unfold wpOp
  simp only [hi, hw, if_true]
  exact .inl h
end
end Go.Proofs.YthpgldfjcancjaaDoor
