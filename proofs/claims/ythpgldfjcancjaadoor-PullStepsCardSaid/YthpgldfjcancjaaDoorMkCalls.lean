/- What a tree's calls tell, at the rows that it holds. No condition. -/
import Derived.Test.YthpgldfjcancjaaDoorMkSet
import Derived.Test.YthpgldfjcancjaaDoorMkLf
namespace Go.Proofs.YthpgldfjcancjaaDoor
open Go.RowKit
theorem set_is {w : World} {g b n B : Nat} {R : Rw} (hT : TreeIs w g b n R) (hn : n ≤ 9000) (k d : Nm) (hg : B ≤ g) (hb : B ≤ b) (hB : B ≤ w.heap.size) (gw : Glob w) (gl : LowG B) :
    Calls Tryd.prog 18 #[.pointer (some ⟨g, 0, none⟩), .agg (u8s k.1).toArray, .agg (u8s d.1).toArray] w fun e w' => e = .returned (.tuple #[]) ∧ TreeIs w' g b (n + 1) (setR R k d) ∧ Tn (treeT g b) B w w' :=
  set_walk leaf_rows hT hn k d hg hb hB gw gl
theorem new_is (w : World) : Calls Tryd.prog 21 #[] w fun e w' => ∃ g b, e = .returned (.pointer (some ⟨g, 0, none⟩)) ∧ TreeIs w' g b 0 [] ∧ w.heap.size ≤ g ∧ w.heap.size ≤ b ∧ Gr w w' :=
  (new_tree w).mono fun _ _ ⟨g, b, h1, h2, h3, h4, h5⟩ => ⟨g, b, h1, ⟨⟨_, h2, fun h a _ _ => (nodeR_nil h a).symm⟩, List.Pairwise.nil⟩, h3, h4, h5⟩
theorem root_is {w : World} {g b n : Nat} {R : Rw} (hT : TreeIs w g b n R) : Calls Tryd.prog 20 #[.pointer (some ⟨g, 0, none⟩)] w fun e w' => e = .returned (by32 (nodeR R 4 0)) ∧ Gr w w' := by
  obtain ⟨⟨N, h1, h2⟩, _⟩ := hT
  have := root_any h1
  rwa [show N 0 0 = nodeR R 4 0 from h2 4 0 (by omega) (by decide)] at this
theorem node_is {w : World} {g b n : Nat} {R : Rw} (hT : TreeIs w g b n R) (l a : Nat) (hl : l < 5) (ha : a < 4 ^ l) :
    Calls Tryd.prog 23 #[.pointer (some ⟨g, 0, none⟩), .int .i64 (l : Int), .int .i64 (a : Int)] w fun e w' => e = .returned (.tuple #[by32 (nodeR R (4 - l) a), .int .i64 0]) ∧ Gr w w' := by
  obtain ⟨⟨N, h1, h2⟩, _⟩ := hT
  have := node_any h1 l a hl ha
  have h3 := h2 (4 - l) a (by omega) (by rw [show 4 - (4 - l) = l by omega]; exact ha)
  rw [show 4 - (4 - l) = l by omega] at h3
  rwa [h3] at this
theorem get_is {w : World} {g b n : Nat} {R : Rw} (hT : TreeIs w g b n R) (k : Nm) :
    Calls Tryd.prog 19 #[.pointer (some ⟨g, 0, none⟩), .agg (u8s k.1).toArray] w fun e w' => e = .returned (by32 ((look R k.1).getD Z32)) ∧ Gr w w' := by
  obtain ⟨⟨N, h1, _⟩, _⟩ := hT
  exact get_any h1 k
/-- The names of a leaf. -/
def namesR (R : Rw) (a : Nat) : List Nm := (inLeaf R a).map fun p => p.1
theorem keys_is {w : World} {g b n : Nat} {R : Rw} (hT : TreeIs w g b n R) (hn : n ≤ 1000000) (a : Nat) :
    Calls Tryd.prog 17 #[.pointer (some ⟨g, 0, none⟩), .int .i64 (a : Int)] w fun e w' => ∃ (A : Option Addr) (m c : Nat), e = .returned (.slice A m c) ∧ NmR w' A m (namesR R a) ∧ m = (inLeaf R a).length ∧ m ≤ n ∧ Gr w w' := by
  obtain ⟨⟨N, h1, _⟩, h2⟩ := hT
  refine (keys_any h1.map hn h1.cell0 (a : Int)).mono ?_
  rintro e w' ⟨A, m, c, L, he, hNm, hnd, hmem, hpw, hm, hG⟩
  have hL : L = namesR R a := leafOf_uniq ⟨hnd, hmem, hpw⟩ (leafOf_rows h2 a)
  rw [hL] at hNm
  refine ⟨A, m, c, he, hNm, ?_, hm, hG⟩
  have := hNm.1
  unfold namesR at this
  rw [List.length_map] at this
  exact this.symm
end Go.Proofs.YthpgldfjcancjaaDoor
