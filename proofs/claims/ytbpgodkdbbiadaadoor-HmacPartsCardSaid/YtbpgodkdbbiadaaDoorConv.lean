/- '[]byte(s)': what is laid, its shape hidden. No condition. -/
import Derived.Laws.IdiomStrings
import Derived.Test.YtbpgodkdbbiadaaDoorBits
namespace Go.Proofs.YtbpgodkdbbiadaaDoor
open Go.RowKit

section
variable {P : Program}
theorem conv_bytes (src dst e : TypeId) (l : List UInt8) (hs : P.underlying src = some .string) (hd : P.underlying dst = some (.slice e)) (he : P.underlying e = some (.int .u8)) :
    ∃ (cap : World → Nat) (W : World → World), ∀ w, (convert src dst (.string ⟨l.toArray⟩)).run P w = .ok (.slice (some ⟨w.heap.size, 0, none⟩) l.length (cap w)) (W w) ∧
      Rd (W w) (some ⟨w.heap.size, 0, none⟩) l.length (u8s l) ∧ Below w.heap.size w (W w) ∧ l.length ≤ cap w := by
  refine ⟨fun w => grownCap w l.length 0 e, fun w => _, fun w => ⟨run_bytes_of_string w src dst e ⟨l.toArray⟩ hs hd he, ?_, ((Below.refl _ _).drew).alloc (Nat.le_refl _) _, grownCap_ge w l.length 0 e⟩⟩
  have h := Rd.of_row (w := w.drew.alloc (.cells (bytesRow ⟨l.toArray⟩ (grownCap w l.length 0 e)) e ((bytesRow ⟨l.toArray⟩ (grownCap w l.length 0 e)).size, (bytesRow ⟨l.toArray⟩ (grownCap w l.length 0 e)).size + 1)))
    (g := w.heap.size) (heap_alloc_new w.drew _) 0 l.length (by simp [bytesRow])
  have e1 : ((bytesRow ⟨l.toArray⟩ (grownCap w l.length 0 e)).toList.drop 0).take l.length = u8s l := by
    simp [bytesRow, u8s]

  rw [e1] at h
  exact h

/-- The same, said of one world. -/
structure ConvB (P : Program) (src dst : TypeId) (l : List UInt8) (n : Nat) (cap : World → Nat) (W : World → World) (w : World) : Prop where
  run : (convert src dst (.string ⟨l.toArray⟩)).run P w = .ok (.slice (some ⟨w.heap.size, 0, none⟩) n (cap w)) (W w)
  rd : Rd (W w) (some ⟨w.heap.size, 0, none⟩) n (u8s l)
  below : Below w.heap.size w (W w)
  le : n ≤ cap w
theorem conv_bytes' (src dst e : TypeId) (l : List UInt8) (n : Nat) (hn : l.length = n) (hs : P.underlying src = some .string) (hd : P.underlying dst = some (.slice e)) (he : P.underlying e = some (.int .u8)) :
    ∃ (cap : World → Nat) (W : World → World), ∀ w, ConvB P src dst l n cap W w := by
  subst hn
  obtain ⟨cap, W, h⟩ := conv_bytes (P := P) src dst e l hs hd he
  exact ⟨cap, W, fun w => ⟨(h w).1, (h w).2.1, (h w).2.2.1, (h w).2.2.2⟩⟩
end
end Go.Proofs.YtbpgodkdbbiadaaDoor
