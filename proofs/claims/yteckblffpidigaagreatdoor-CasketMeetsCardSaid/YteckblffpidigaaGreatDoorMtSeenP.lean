/- All that siblings are and have seen, in plain. No condition. -/
import Derived.Test.YteckblffpidigaaGreatDoorMtSee
import Derived.Test.YteckblffpidigaaGreatDoorKitT
namespace Go.Proofs.YteckblffpidigaaGreatDoor
def restL (L : List SibV) : List DotM := L.flatMap fun x => x.d :: x.c.more
theorem restL_snoc (L : List SibV) (x : SibV) : restL (L ++ [x]) = restL L ++ (x.d :: x.c.more) := by
  unfold restL
  rw [List.flatMap_append, List.flatMap_singleton]
theorem restL_len {L : List SibV} (h : ∀ x ∈ L, x.c.more.length ≤ 32) : (restL L).length ≤ L.length * 33 := by
  induction L with
  | nil => simp [restL]
  | cons x L ih =>
    have h1 := h x List.mem_cons_self
    have h2 := ih fun y hy => h y (List.mem_cons_of_mem _ hy)
    unfold restL at h2 ⊢
    rw [List.flatMap_cons, List.length_append, List.length_cons, List.length_cons]
    omega
structure UpIs (L : List SibV) (U : List Nat) : Prop where
  len : U.length = 16
  small : ∀ n ∈ U, n ≤ 1099511627776
  is : ∀ j, j < 16 → ∀ n, n ≤ U.getD j 0 ↔ (n = 0 ∨ ∃ x ∈ L, n ≤ x.c.upto.getD j 0)
theorem UpIs.nil : UpIs [] (List.replicate 16 0) := by
  refine ⟨rfl, fun n hn => by have := (List.mem_replicate.1 hn).2; omega, fun j hj n => ?_⟩
  have : (List.replicate 16 0).getD j 0 = 0 := by
    rw [List.getD_eq_getElem?_getD, List.getElem?_replicate]
    split <;> rfl
  rw [this]
  simp
theorem UpIs.add {L : List SibV} {U W : List Nat} {x : SibV} (h : UpIs L U) (hx : OkC x.c) (hW : W.length = 16) (hm : ∀ j, j < 16 → W.getD j 0 = max (U.getD j 0) (x.c.upto.getD j 0)) : UpIs (L ++ [x]) W := by
  refine ⟨hW, fun n hn => ?_, fun j hj n => ?_⟩
  · obtain ⟨j, hj⟩ := List.getElem?_of_mem hn
    have hl := (List.getElem?_eq_some_iff.1 hj).1
    have h1 := hm j (by omega)
    have e : W.getD j 0 = n := by rw [List.getD_eq_getElem?_getD, hj]; rfl
    have h2 : U.getD j 0 ≤ 1099511627776 := by
      rw [List.getD_eq_getElem?_getD, List.getElem?_eq_getElem (by have := h.len; omega)]
      exact h.small _ (List.getElem_mem _)
    have h3 : x.c.upto.getD j 0 ≤ 1099511627776 := by
      rw [List.getD_eq_getElem?_getD, List.getElem?_eq_getElem (by have := hx.len; omega)]
      exact hx.small _ (List.getElem_mem _)
    omega
  · rw [hm j hj]
    have h1 := h.is j hj n
    constructor
    · intro hn
      rcases Nat.le_total (U.getD j 0) (x.c.upto.getD j 0) with h2 | h2
      · rw [Nat.max_eq_right h2] at hn
        exact .inr ⟨x, by simp, hn⟩
      · rw [Nat.max_eq_left h2] at hn
        rcases h1.1 hn with h3 | ⟨y, hy, h3⟩
        · exact .inl h3
        · exact .inr ⟨y, List.mem_append_left _ hy, h3⟩
    · rintro (h2 | ⟨y, hy, h2⟩)
      · omega
      · rcases List.mem_append.1 hy with hy | hy
        · have := h1.2 (.inr ⟨y, hy, h2⟩)
          omega
        · have : y = x := by simpa using hy
          subst this
          omega
/-- What stands while the rest is taken in. -/
structure SAt (U : List Nat) (R : List DotM) (c : CtxM) : Prop where
  ok : OkC c
  has : ∀ d, rightD d → (hasC c d ↔ d.2 ≤ U.getD (d.1 - 1) 0 ∨ d ∈ R)
  mem : ∀ d ∈ c.more, d ∈ R
theorem SAt.start {L : List SibV} {U : List Nat} (h : UpIs L U) : SAt U [] ⟨U, []⟩ :=
  ⟨⟨h.len, h.small, Nat.zero_le _, fun _ h => (by cases h), List.Pairwise.nil⟩, fun d _ => by unfold hasC upOf; exact Iff.rfl, fun _ h => (by cases h)⟩
theorem SAt.skip {U : List Nat} {R : List DotM} {c : CtxM} {d : DotM} (h : SAt U R c) (hd : d.2 ≤ upOf c d.1) : SAt U (R ++ [d]) c := by
  refine ⟨h.ok, fun e he => ?_, fun e he => List.mem_append_left _ (h.mem e he)⟩
  rw [h.has e he]
  constructor
  · exact fun h1 => h1.imp id fun h2 => List.mem_append_left _ h2
  · rintro (h1 | h1)
    · exact .inl h1
    · rcases List.mem_append.1 h1 with h2 | h2
      · exact .inr h2
      · have : e = d := by simpa using h2
        subst this
        exact (h.has e he).1 (.inl hd)
theorem SAt.take {U : List Nat} {R : List DotM} {c c' : CtxM} {d : DotM} (h : SAt U R c) (hd : rightD d) (hf : c.more.length + 1 ≤ 32) (hT : Tidy c.upto (c.more ++ [d]) c') : SAt U (R ++ [d]) c' := by
  have hS : ∀ x ∈ c.more ++ [d], rightD x := fun x hx => by
    rcases List.mem_append.1 hx with h1 | h1
    · exact (h.ok.right x h1).1
    · have : x = d := by simpa using h1
      rw [this]
      exact hd
  refine ⟨hT.ok hS (by rw [List.length_append]; exact hf), fun e he => ?_, fun e he => ?_⟩
  · rw [hT.has e he]
    have h1 := h.has e he
    unfold hasC upOf at h1
    constructor
    · rintro (h2 | h2)
      · exact (h1.1 (.inl h2)).imp id fun h3 => List.mem_append_left _ h3
      · rcases List.mem_append.1 h2 with h3 | h3
        · exact (h1.1 (.inr h3)).imp id fun h4 => List.mem_append_left _ h4
        · exact .inr (List.mem_append_right _ h3)
    · rintro (h2 | h2)
      · exact (h1.2 (.inl h2)).imp id fun h3 => List.mem_append_left _ h3
      · rcases List.mem_append.1 h2 with h3 | h3
        · exact (h1.2 (.inr h3)).imp id fun h4 => List.mem_append_left _ h4
        · exact .inr (List.mem_append_right _ h3)
  · rcases List.mem_append.1 (hT.mem e he) with h1 | h1
    · exact List.mem_append_left _ (h.mem e h1)
    · exact List.mem_append_right _ h1
theorem SAt.few {U : List Nat} {R D : List DotM} {c : CtxM} (h : SAt U R c) (hR : ∀ d ∈ R, d ∈ D) : c.more.length ≤ D.length := by
  refine nodup_le ?_ fun d hd => hR d (h.mem d hd)
  rw [List.nodup_iff_pairwise_ne]
  exact h.ok.sorted.imp fun {a b} hab e => by rw [e] at hab; exact dLt_irrefl _ hab
/-- What siblings are and have seen. -/
def covS (L : List SibV) (d : DotM) : Prop := ∃ x ∈ L, d = x.d ∨ hasC x.c d
theorem SAt.cov {L : List SibV} {U : List Nat} {R : List DotM} {c : CtxM} (h : SAt U R c) (hU : UpIs L U) (hR : ∀ d, d ∈ R ↔ d ∈ restL L) (d : DotM) (hd : rightD d) : hasC c d ↔ covS L d := by
  rw [h.has d hd, hU.is (d.1 - 1) (by have := hd.1; have := hd.2.1; omega) d.2, hR d]
  unfold covS restL
  constructor
  · rintro ((h0 | ⟨x, hx, h1⟩) | h1)
    · have := hd.2.2.1
      omega
    · exact ⟨x, hx, .inr (.inl h1)⟩
    · obtain ⟨x, hx, h2⟩ := List.mem_flatMap.1 h1
      rcases List.mem_cons.1 h2 with h3 | h3
      · exact ⟨x, hx, .inl h3⟩
      · exact ⟨x, hx, .inr (.inr h3)⟩
  · rintro ⟨x, hx, h1 | h1 | h1⟩
    · exact .inr (List.mem_flatMap.2 ⟨x, hx, by rw [h1]; exact List.mem_cons_self⟩)
    · exact .inl (.inr ⟨x, hx, h1⟩)
    · exact .inr (List.mem_flatMap.2 ⟨x, hx, List.mem_cons_of_mem _ h1⟩)
end Go.Proofs.YteckblffpidigaaGreatDoor
