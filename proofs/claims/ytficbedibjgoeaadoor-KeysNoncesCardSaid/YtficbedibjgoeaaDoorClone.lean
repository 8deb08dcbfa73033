/- The walk of slices.Clone over bytes. No condition. -/
import Derived.Test.YtficbedibjgoeaaDoorKitA
namespace Go.Proofs.YtficbedibjgoeaaDoor
open Go.RowKit
set_option maxHeartbeats 1000000 in
theorem clone_any (A : Option Addr) (n c : Nat) (l : List UInt8) (hn : n ≤ 1000000) (w : World) (hr : Rd w A n (u8s l)) (hA : A = none → n = 0 ∧ c = 0) :
    Calls Tryd.prog 32 #[.slice A n c] w fun e w' => ∃ v, e = .returned v ∧ w'.ownsRow w.heap.size 5 1 v n (u8s l) ∧ Below w.heap.size w w' := by
  obtain ⟨i0, hi0, hz0, hz1, hz2⟩ := info_parts Tryd.info5
  cases A with
  | none =>
    obtain ⟨rfl, rfl⟩ := hA rfl
    have hl : l = [] := by have := hr.1; simpa using this
    subst hl
    have he : ∀ w : World, (binOp .eql 23 (.slice none 0 0) (.slice none 0 0)).run Tryd.prog w = .ok (.bool true) w := fun _ => rfl
    go_enter Tryd.func32, Tryd.ntmps32
    go_wp2_with fail
    go_ret
    exact ⟨_, rfl, World.ownsRow_nil _ _ _ _, Below.refl _ _⟩
  | some ad =>
    clear hA
    have he : ∀ w : World, (binOp .eql 23 (.slice (some ad) n c) (.slice none 0 0)).run Tryd.prog w = .ok (.bool false) w := fun _ => rfl
    go_enter Tryd.func32, Tryd.ntmps32
    go_wp2_with (at_builtin; go_must (refine wpList_clip _ rfl (.tmp 5) (.tmp 6) 23 rfl 5 i0 (.int .u8 0) Tryd.underlying23 hi0 hz0 hz1 hz2 rfl w.heap.size rfl rfl (some ad) n c l rfl hr (by omega) ?_))
    intro v1 w1 ho1 hB1
    go_simp
    go_wp2_with fail
    go_ret
    exact ⟨_, rfl, ho1, hB1⟩
end Go.Proofs.YtficbedibjgoeaaDoor
