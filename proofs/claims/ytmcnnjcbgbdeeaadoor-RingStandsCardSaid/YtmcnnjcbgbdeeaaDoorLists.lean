/- The walks of the document's All and Few. No condition. -/
import Derived.Test.YtmcnnjcbgbdeeaaDoorShaE
import Derived.Test.YtmcnnjcbgbdeeaaDoorKitA
namespace Go.Proofs.YtmcnnjcbgbdeeaaDoor
open Go.RowKit
theorem infoRow : (Tryd.prog.info? 42).map (fun i => (i.zero, i.size, i.bytes)) = some (some (.slice none 0 0), 1, 24) := by kernel_rfl
theorem run_build1S {ev : Operand → Value} {d : Option Tmp} {t : TypeId} {p : String} {af : Array Edge} {gd : Option (Nat × Bool)} {w : World} {x : Operand} {A : Option Addr} {n c : Nat} (h1 : ev x = .slice A n c) :
    (execOp ev ⟨d, .buildSlice 68 1 #[(0, x)], t, p, af, gd⟩).run Tryd.prog w = .ok (.value (.slice (some ⟨w.heap.size, 0, none⟩) 1 1)) (w.alloc (.cells #[.slice A n c] 42)) := by
  simp only [execOp]
  go_simp
/-- A slice of one slice, of at most so many bytes, all of it made since. -/
def P35 (B size : Nat) (v : Value) (w : World) : Prop :=
  ∃ (g : Nat) (p : Part), v = .slice (some ⟨g, 0, none⟩) 1 1 ∧ w.cell? ⟨g, 0, none⟩ = some p.val ∧ Rd w p.A p.n (u8s p.l) ∧ p.n ≤ p.c ∧ p.n ≤ size ∧ ∀ ad, p.A = some ad → B ≤ ad.block ∧ ad.block < w.heap.size
theorem P35.gr {B size : Nat} {v : Value} {w w' : World} (h : P35 B size v w) (g : Gr w w') : P35 B size v w' := by
  obtain ⟨g1, p, h1, h2, h3, h4, h5, h6⟩ := h
  exact ⟨g1, p, h1, g.cell h2, g.rd h3, h4, h5, fun ad e => ⟨(h6 ad e).1, Nat.lt_of_lt_of_le (h6 ad e).2 g.size⟩⟩
theorem NewV.gr {B : Nat} {e : TypeId} {v : Value} {w w' : World} (h : NewV B e v w) (g : Gr w w') : NewV B e v w' := by
  obtain ⟨g1, h1, h2⟩ := h
  exact ⟨g1, h1, Gr.own g h2⟩
theorem CopyV.gr {B : Nat} {e : TypeId} {l : List UInt8} {v : Value} {w w' : World} (h : CopyV B e l v w) (g : Gr w w') : CopyV B e l v w' := Gr.own g h
/-- So many slices, each of at most so many bytes, all made since w. -/
def FewR (w : World) (n most size : Nat) (v i : Value) (wr : World) : Prop :=
  ∃ (k : Nat) (A : Option Addr) (c : Nat) (ps : List Part), k ≤ n ∧ k ≤ most ∧ i = .int .i64 (k : Int) ∧ v = .slice A k c ∧ wr.ownsRow w.heap.size 42 1 (.slice A k c) k (ps.map Part.val) ∧
    (∀ p ∈ ps, Rd wr p.A p.n (u8s p.l) ∧ p.n ≤ p.c ∧ p.n ≤ size ∧ ∀ ad, p.A = some ad → ad.block < wr.heap.size ∧ (Value.slice A k c).ownBlock ≠ some ad.block) ∧ Below w.heap.size w wr
theorem Part.one (p : Part) : p.val.oneCell' = true := rfl
end Go.Proofs.YtmcnnjcbgbdeeaaDoor

