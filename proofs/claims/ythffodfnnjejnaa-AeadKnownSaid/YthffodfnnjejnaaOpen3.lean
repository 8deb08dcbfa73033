/- A record of two arrays of bytes, opened; its parts in memory. No condition. -/
import Derived.Test.YthffodfnnjejnaaOpen2
import Derived.Test.YthffodfnnjejnaaKitA
namespace Go.Proofs.Ythffodfnnjejnaa
open Go.ChangeShapes Go.WideShapes Go.ChangeAt Go.RowKit
section
variable {P : Program} {H : Type} {enc : TypeId × Value → H} {w : World} {base : Nat} {spare : Nat → Bool} {held : Bool}
theorem open_two {r : Reach} {b0 : Nat} {t e : TypeId} {n m : Nat} {f0 f1 : Field} {v : Value} {d : DataW H} {p : List MemPlace} (ht : P.underlying t = some (.struct #[f0, f1])) (o0 : f0.offset = 0) (o1 : f1.offset = n)
    (u0 : P.underlying f0.type = some (.array n e)) (u1 : P.underlying f1.type = some (.array m e)) (he : P.underlying e = some (.int .u8)) (hc : P.cellsOf e = 1) (c0 : P.cellsOf f0.type = n) (c1 : P.cellsOf f1.type = m) (cT : P.cellsOf t = n + m)
    (hv : Value.okWide P w r b0 t v) (h : DataW.Trod enc P w base spare held t v d p) :
    ∃ (k l : List UInt8), k.length = n ∧ l.length = m ∧ v = .agg (u8s k ++ u8s l).toArray := by
  obtain ⟨cs, rfl, hsz⟩ := okWide_struct ht hv
  obtain ⟨fuel, hf⟩ := h
  obtain ⟨y0, y1, q, _, hl, h0, h1⟩ := trod_struct2 ht hf
  simp only [Value.cells, o0, o1, c0, c1, List.drop_zero] at hl h0 h1
  have hlen : cs.toList.length = n + m := by rw [Array.length_toList, hsz, cT]
  obtain ⟨k, h3, h4⟩ := open_cells u0 he hc h0 (by simp [hsz, cT])
  obtain ⟨l, h5, h6⟩ := open_cells u1 he hc h1 (by simp [hsz, cT])
  refine ⟨k, l, h3, h5, ?_⟩
  congr 1
  apply Array.ext'
  have h7 : cs.toList = cs.toList.take n ++ (cs.toList.drop n).take m := by
    rw [List.take_of_length_le (l := cs.toList.drop n) (by simp [hsz, cT]), List.take_append_drop]
  rw [h7, h4, h6]
end
section
variable {w : World} {g : Nat} {t : TypeId} {k l : List UInt8} {n m : Nat}
theorem Arr.rangeL (h : Arr w g t (u8s k ++ u8s l)) : w.rangeAt g 0 (u8s k) := fun j v hj => h.range j v (by
  rw [List.getElem?_append_left (by
    rcases Nat.lt_or_ge j (u8s k).length with h1 | h1
    · exact h1
    · rw [List.getElem?_eq_none h1] at hj; cases hj)]
  exact hj)
theorem Arr.rangeR (h : Arr w g t (u8s k ++ u8s l)) (hk : k.length = n) : w.rangeAt g n (u8s l) := fun j v hj => by
  have := h.cell (i := n + j) (v := v) (by rw [List.getElem?_append_right (by simp [hk]), show n + j - (u8s k).length = j by simp [hk]]; exact hj)
  exact this
theorem Arr.rdL (h : Arr w g t (u8s k ++ u8s l)) (hk : k.length = n) : Rd w (some ⟨g, 0, none⟩) n (u8s k) := by
  have := h.rd 0 n (by simp [hk])
  rwa [List.drop_zero, List.take_append_of_le_length (by simp [hk]), List.take_of_length_le (by simp [hk])] at this
theorem Arr.rdR (h : Arr w g t (u8s k ++ u8s l)) (hk : k.length = n) (hl : l.length = m) : Rd w (some ⟨g, n, none⟩) m (u8s l) := by
  have := h.rd n m (by simp [hk, hl])
  rwa [List.drop_append_of_le_length (by simp [hk]), List.drop_of_length_le (by simp [hk]), List.nil_append, List.take_of_length_le (by simp [hl])] at this
end
end Go.Proofs.Ythffodfnnjejnaa
