/- The copy of a row of writes. No condition. -/
import Derived.Test.YteckblffpidigaaGreatDoorMtHas
namespace Go.Proofs.YteckblffpidigaaGreatDoor
open Go.RowKit
theorem infoDt : (Tryz.prog.info? 39).map (fun i => (i.size, i.bytes, i.zero.map (·.cells.size))) = some (2, 16, some 2) := by kernel_rfl
theorem infoDt_parts : ∃ i z, Tryz.prog.info? 39 = some i ∧ i.zero = some z ∧ i.size = 2 ∧ i.bytes = 16 ∧ z.cells.size = 2 := by
  cases hie : Tryz.prog.info? 39 with
  | none => have := infoDt; rw [hie] at this; cases this
  | some ie =>
    have hq := infoDt
    rw [hie] at hq
    simp only [Option.map_some, Option.some.injEq, Prod.mk.injEq] at hq
    obtain ⟨q1, q2, q3⟩ := hq
    cases hz : ie.zero with
    | none => rw [hz] at q3; cases q3
    | some z =>
      rw [hz] at q3
      exact ⟨ie, z, rfl, hz, q1, q2, by simpa using q3⟩
theorem dots_len (L : List DotM) : (L.flatMap encD).length = L.length * 2 := by
  induction L with
  | nil => rfl
  | cons d L ih => rw [List.flatMap_cons, List.length_append, ih, List.length_cons, encD_length]; omega
theorem dots_one (L : List DotM) : ∀ u ∈ L.flatMap encD, u.oneCell' = true := by
  intro u hu
  obtain ⟨d, _, hx⟩ := List.mem_flatMap.1 hu
  exact encD_one d u hx
/-- Writes in a row of one's own. -/
def OwnD (w : World) (B : Nat) (A : Option Addr) (n c : Nat) (L : List DotM) : Prop := w.ownsRow B 39 2 (.slice A n c) n (L.flatMap encD)
theorem OwnD.len {w : World} {B : Nat} {A : Option Addr} {n c : Nat} {L : List DotM} (h : OwnD w B A n c L) : L.length = n := by
  have := h.1
  rw [dots_len] at this
  omega
theorem OwnD.dots {w : World} {B : Nat} {A : Option Addr} {n c : Nat} {L : List DotM} (h : OwnD w B A n c L) : DotsR w A n L := dots_own h h.len
theorem OwnD.nil (w : World) (B : Nat) : OwnD w B none 0 0 [] := ⟨rfl, .inl ⟨rfl, rfl⟩⟩
theorem OwnD.nil0 {w : World} {B : Nat} {A : Option Addr} {n c : Nat} {L : List DotM} (h : OwnD w B A n c L) : A = none → c = 0 := by
  intro e
  rcases h.2 with ⟨e1, _⟩ | ⟨g, cap, cur, e1, _⟩
  · injection e1
  · injection e1 with e1
    rw [e] at e1
    cases e1
theorem OwnD.gr {w w' : World} {B : Nat} {A : Option Addr} {n c : Nat} {L : List DotM} (h : OwnD w B A n c L) (hG : Gr w w') : OwnD w' B A n c L := Gr.own hG h
set_option maxHeartbeats 2000000 in
set_option maxRecDepth 100000 in
theorem cloneD_any {A : Option Addr} {n c : Nat} {L : List DotM} {w : World} (hL : DotsR w A n L) (hn : n ≤ 100000) (hA0 : A = none → c = 0) :
    Calls Tryz.prog 61 #[.slice A n c] w fun e w' => ∃ A' c', e = .returned (.slice A' n c') ∧ OwnD w' w.heap.size A' n c' L ∧ (n = 0 → c' = 0) ∧ Gr w w' := by
  obtain ⟨iD, zD, hiD, hz0, hz1, hz2, hz3⟩ := infoDt_parts
  cases A with
  | none =>
    have hL0 : L = [] := by
      cases L with
      | nil => rfl
      | cons d L =>
        obtain ⟨b, o, e, _⟩ := hL.2 0 d rfl
        cases e
    have hn0 : n = 0 := by rw [← hL.1, hL0]; rfl
    have hc0 := hA0 rfl
    subst hn0 hL0 hc0
    clear hL hA0
    have he : ∀ w : World, (binOp .eql 26 (.slice none 0 0) (.slice none 0 0)).run Tryz.prog w = .ok (.bool true) w := fun _ => rfl
    go_enter Tryz.func61, Tryz.ntmps61
    go_wp2_with fail
    go_ret
    exact ⟨none, 0, rfl, OwnD.nil _ _, fun _ => rfl, Gr.refl _⟩
  | some ad =>
    have hc := dots_cells (hL.gr (Gr.alloc w (.cells #[] 39)))
    have hlen : (L.flatMap encD).length = n * 2 := by rw [dots_len, hL.1]
    have hoe := own_emptyE (w := w) 39 2 (Nat.le_refl _)
    clear hL hA0
    have he : ∀ w : World, (binOp .eql 26 (.slice (some ad) n c) (.slice none 0 0)).run Tryz.prog w = .ok (.bool false) w := fun _ => rfl
    by_cases hn0 : n = 0
    · subst hn0
      have hnil : L.flatMap encD = [] := List.length_eq_zero_iff.1 (by rw [hlen])
      have hrun : ∀ w1 : World, (Builtin.append_ #[26, 26] 26 #[.slice (some ⟨w.heap.size, 0, none⟩) 0 0, .slice (some ad) 0 c]).run Tryz.prog w1 = .ok (.slice (some ⟨w.heap.size, 0, none⟩) 0 0) w1 := fun w1 => run_append_nothing w1 26 26 26 39 iD Tryz.underlying26 hiD _ 0 0 (Nat.le_refl _) _ (Src.ofSlice w1 Tryz.underlying26 ad 0 c [] (by simp) (fun j u h => by simp at h) (fun u h => by cases h))
      have HO : Hid (OwnD (w.alloc (.cells #[] 39)) w.heap.size (some ⟨w.heap.size, 0, none⟩) 0 0 L) := Lib.hid (by unfold OwnD; rw [hnil]; exact hoe)
      have HG := Lib.hid (Gr.alloc w (.cells #[] 39))
      clear hoe hc hlen hnil
      go_enter Tryz.func61, Tryz.ntmps61
      go_wp2_with (at_builtin; go_must (refine wpList_valW rfl (.slice (some ⟨w.heap.size, 0, none⟩) 0 0) _ (by simp only [execOp, resolve, invoke, builtin, List.map_toArray, List.map_cons, List.map_nil, Sem.run_bind, Sem.run_pure, Result.andThen_ok]; exact congrArg (fun r => r.andThen fun a w' => Result.ok (Next.value a) w') (hrun _)) ?_))
      go_ret
      exact ⟨_, 0, rfl, HO.out, fun _ => rfl, HG.out⟩
    · go_enter Tryz.func61, Tryz.ntmps61
      go_wp2_with (at_builtin; go_must (refine wpList_clone rfl (.tmp 5) (.tmp 6) 26 rfl w.heap.size 39 iD zD 2 16 Tryz.underlying26 hiD hz0 hz1 hz2 hz3 (by omega) rfl hoe (some ad) n c _ rfl hlen hc (dots_one L) (by unfold maxLen; omega) (by omega) (Gr.alloc w _).size ?_; intro A3 c3 w3 ho3 hG3))
      go_ret
      exact ⟨A3, c3, rfl, ho3, fun h => absurd h hn0, (Gr.alloc w _).trans hG3⟩
end Go.Proofs.YteckblffpidigaaGreatDoor
