/- Both trees of the law and the document's, as what is told of them: no condition. -/
import Derived.Test.YthpgldfjcancjaaDoorPuTrees
import Derived.Test.YthpgldfjcancjaaDoorPuSame
import Derived.Test.YthpgldfjcancjaaDoorPuApart
import Derived.Test.YthpgldfjcancjaaDoorPuRef
namespace Go.Proofs.YthpgldfjcancjaaDoor
open Go.RowKit
theorem FourIs.gr {B : Nat} {w w' : World} {g b g' b' p p' n : Nat} {R S : Rw} (h : FourIs B w g b g' b' p p' n R S) (hG : Gr w w') : FourIs B w' g b g' b' p p' n R S :=
  ⟨h.ta.gr hG, h.tb.gr hG, h.ra.gr hG, h.rb.gr hG, h.fa, h.fb, h.na, h.nb⟩
/-- The leaves that are told, as a row of numbers. -/
theorem leaves_row {w : World} {g b n g' b' n' : Nat} {R S : Rw} (hR : TreeIs w g b n R) (hS : TreeIs w g' b' n' S) {q T : Nat} (hq : q = (levelL R S 5).length) (hT : T = toldL R S 5) :
    Calls Tryd.prog 7 #[.pointer (some ⟨g, 0, none⟩), .pointer (some ⟨g', 0, none⟩)] w fun e w' => ∃ A c, e = .returned (.tuple #[.slice A q c, .int .i64 (T : Int), .int .i64 0]) ∧ Rd w' A q (intV (levelL R S 5)) ∧ Gr w w' := by
  refine (leaves_any hR hS).mono fun e w' h => ?_
  obtain ⟨A, m, c, rfl, hm, ho, hG⟩ := h
  rw [← hq] at hm
  subst hm
  rw [hT]
  exact ⟨A, c, rfl, Rd.of_own ho, hG⟩
theorem leaves_own {w : World} {g b n g' b' n' : Nat} {R S : Rw} (hR : TreeIs w g b n R) (hS : TreeIs w g' b' n' S) {q T : Nat} (hq : q = (levelL R S 5).length) (hT : T = toldL R S 5) :
    Calls Tryd.prog 7 #[.pointer (some ⟨g, 0, none⟩), .pointer (some ⟨g', 0, none⟩)] w fun e w' => ∃ A c, e = .returned (.tuple #[.slice A q c, .int .i64 (T : Int), .int .i64 0]) ∧ w'.ownsRow w.heap.size 3 1 (.slice A q c) q (intV (levelL R S 5)) ∧ Gr w w' := by
  refine (leaves_any hR hS).mono fun e w' h => ?_
  obtain ⟨A, m, c, rfl, hm, ho, hG⟩ := h
  rw [← hq] at hm
  subst hm
  rw [hT]
  exact ⟨A, c, rfl, ho, hG⟩
theorem refLeaves_row {w : World} {B p p' : Nat} {R S : Rw} (hR : RT B w p R) (hS : RT B w p' S) (hRl : R.length ≤ 1000) (hSl : S.length ≤ 1000) {q T : Nat} (hq : q = (levelL R S 5).length) (hT : T = toldL R S 5) :
    Calls Tryd.prog 8 #[.pointer (some ⟨p, 0, none⟩), .pointer (some ⟨p', 0, none⟩)] w fun e w' => ∃ A c, e = .returned (.tuple #[.slice A q c, .int .i64 (T : Int)]) ∧ Rd w' A q (intV (levelL R S 5)) ∧ Gr w w' := by
  refine (refLeaves_any hR hS hRl hSl).mono fun e w' h => ?_
  obtain ⟨A, m, c, rfl, hm, ho, hG⟩ := h
  rw [← hq] at hm
  subst hm
  rw [hT]
  exact ⟨A, c, rfl, Rd.of_own ho, hG⟩
theorem level_len (R S : Rw) : (levelL R S 5).length ≤ 1024 := levelL_length R S 5
/-- The same numbers, in two rows. -/
theorem same_yes {w : World} {A B : Option Addr} {q c d : Nat} {l : List Nat} (hx : Rd w A q (intV l)) (hy : Rd w B q (intV l)) (hq : q ≤ 100000) :
    Calls Tryd.prog 10 #[.slice A q c, .slice B q d] w fun e w' => e = .returned (.bool true) ∧ Gr w w' := by
  rw [← zV_nat] at hx hy
  have := same_any (c := c) (d := d) hx hy hq
  simpa using this
/-- A leaf that is told has unlike rows. -/
theorem apart_told {w : World} {B p p' : Nat} {R S : Rw} (hR : RT B w p R) (hS : RT B w p' S) (hRl : R.length ≤ 1000) (hSl : S.length ≤ 1000) {x : Nat} (hx : x ∈ levelL R S 5) :
    Calls Tryd.prog 11 #[.pointer (some ⟨p, 0, none⟩), .pointer (some ⟨p', 0, none⟩), .int .i64 (x : Int)] w fun e w' => e = .returned (.bool true) ∧ Gr w w' := by
  have := apart_any hR hS hRl hSl x
  rw [decide_eq_false (rows_unlike (leaves_unlike hx).2)] at this
  exact this
end Go.Proofs.YthpgldfjcancjaaDoor
