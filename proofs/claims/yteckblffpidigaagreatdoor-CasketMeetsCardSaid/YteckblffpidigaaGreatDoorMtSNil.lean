/- The stable sort and CompactFunc at a row of none. No condition. -/
import Derived.Test.YteckblffpidigaaGreatDoorMtCompF
import Derived.Shelf.SlSortCmp.NoneTotal
namespace Go.Proofs.YteckblffpidigaaGreatDoor
open Go.Shelf Go.RowKit Go.Lib Go.Sort
set_option maxHeartbeats 4000000 in
set_option maxRecDepth 1000000 in
theorem sortS_nil (A : Option Addr) (c : Nat) (fv : Value) (w : World) :
    Calls Tryz.prog 26 #[.slice A 0 c, fv] w fun e w' => e = .returned (.tuple #[]) ∧ w' = w := by
  have H1 : Hid (∀ w, Calls Tryz.prog 76 #[.slice A 0 c, .int .i64 0, .int .i64 0, fv] w fun e w' => e = .returned (.tuple #[]) ∧ w' = w) := Lib.hid (fun w => AnyF.insertionSortCmpFunc_none SibIns A c fv w)
  have H2 : Hid (∀ w, Calls Tryz.prog 59 #[.slice A 0 c, .int .i64 0, fv] w fun e w' => e = .returned (.tuple #[]) ∧ w' = w) := Lib.hid (by
    intro w
    go_enter Tryz.func59, Tryz.ntmps59
    go_wp2_with fail
    refine wp_loop_rounds 1 ?_
    rw [rounds_succ]
    go_wp2_with (go_at_call 76; refine (H1.out w).mono ?_; rintro e w2 ⟨rfl, rfl⟩)
    refine wp_loop_rounds 1 ?_
    rw [rounds_succ]
    go_wp2_with fail
    go_end0
    exact ⟨rfl, rfl⟩)
  go_enter Tryz.func26, Tryz.ntmps26
  go_wp2_with (go_at_call 59; refine (H2.out w).mono ?_; rintro e w2 ⟨rfl, rfl⟩)
  go_end0
  exact ⟨rfl, rfl⟩
set_option maxHeartbeats 4000000 in
set_option maxRecDepth 1000000 in
theorem compact_nil (A : Option Addr) (c : Nat) (fv : Value) (w : World) :
    Calls Tryz.prog 28 #[.slice A 0 c, fv] w fun e w' => e = .returned (.slice A 0 c) ∧ w' = w := by
  go_enter Tryz.func28, Tryz.ntmps28
  go_wp2_with fail
  go_ret
  exact ⟨rfl, rfl⟩
/-- CompactFunc, at siblings. -/
theorem compactS_any {L : List SibU} {g n c : Nat} {rest : List Value} {w : World} (hA : Arr w g 44 (L.flatMap sibU ++ rest)) (hl : L.length = n) (hnc : n ≤ c) (hn : n ≤ 1000000) :
    Calls Tryz.prog 28 #[.slice (some ⟨g, 0, none⟩) n c, .func (.func 29) #[] #[]] w fun e w' => CompQ L sibU 20 g n c rest w e w' := by
  refine compact_any 20 (by omega) Tryz.sizeOf44 sibU sibU_length sibU_one (fun x y w => eqS_any x.2 y.2 w) _ Tryz.zeroValue44 ?_ ?_ hA hl hnc hn
  · rfl
  · intro v hv
    simp only [Value.cells] at hv
    revert v
    decide
end Go.Proofs.YteckblffpidigaaGreatDoor
