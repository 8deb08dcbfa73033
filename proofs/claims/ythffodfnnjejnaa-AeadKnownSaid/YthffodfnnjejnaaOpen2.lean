/- A record of a word and an array of bytes, opened. No condition. -/
import Derived.ChangeSame
import Derived.Test.YthffodfnnjejnaaOpen
namespace Go.Proofs.Ythffodfnnjejnaa
open Go.ChangeShapes Go.WideShapes Go.ChangeAt Go.RowKit
section
variable {P : Program} {H : Type} {enc : TypeId × Value → H} {w : World} {base : Nat} {spare : Nat → Bool} {held : Bool}
theorem open_cells {t e : TypeId} {n fuel : Nat} {cs : List Value} {x : DataW H × List MemPlace} (ht : P.underlying t = some (.array n e)) (he : P.underlying e = some (.int .u8)) (hc : P.cellsOf e = 1)
    (hf : DataW.trod enc P w base spare held fuel t cs = some x) (hl : cs.length = n) : ∃ l : List UInt8, l.length = n ∧ cs = u8s l := by
  obtain ⟨xs, m, _, _, _, hn, hel⟩ := DataW.trod_array ht hf
  simp only [hc, Nat.mul_one] at hel
  have hel2 : ∀ i, i < n → ∃ z, cs[i]? = some (.int .u8 z) ∧ (Lit.int .u8 z).wf = true := by
    intro i hi
    have h1 := hel i hi
    rw [List.getElem?_eq_getElem (by omega)] at h1
    obtain ⟨z, h2, _, h4⟩ := DataW.trod_int he h1
    refine ⟨z, ?_, h4⟩
    have h5 : ((cs.drop i).take 1)[0]? = some (.int .u8 z) := by rw [h2]; rfl
    rw [List.getElem?_take, if_pos (by omega), List.getElem?_drop] at h5
    simpa using h5
  have e1 : cs = ((List.range n).map fun i => intOf (cs[i]?.getD undef)).map (Value.int .u8) := by
    apply List.ext_getElem?
    intro i
    by_cases hi : i < n
    · obtain ⟨z, hz, _⟩ := hel2 i hi
      simp [hi, hz, intOf]
    · rw [List.getElem?_eq_none (by omega), List.getElem?_eq_none (by simp; omega)]
  obtain ⟨l, h1, h2⟩ := bytes_of_wf ((List.range n).map fun i => intOf (cs[i]?.getD undef)) (fun z hz => by
    rw [List.mem_map] at hz
    obtain ⟨i, hi, rfl⟩ := hz
    obtain ⟨z, hz, hw⟩ := hel2 i (by simpa using hi)
    rw [hz]; exact hw)
  refine ⟨l, by rw [h2]; simp, ?_⟩
  rw [← h1]; exact e1
theorem open_at {r : Reach} {b0 : Nat} {t e : TypeId} {n : Nat} {f0 f1 : Field} {v : Value} {d : DataW H} {p : List MemPlace} (ht : P.underlying t = some (.struct #[f0, f1])) (o0 : f0.offset = 0) (o1 : f1.offset = 1)
    (u0 : P.underlying f0.type = some (.int .u32)) (u1 : P.underlying f1.type = some (.array n e)) (he : P.underlying e = some (.int .u8)) (hc : P.cellsOf e = 1) (c0 : P.cellsOf f0.type = 1) (c1 : P.cellsOf f1.type = n) (cT : P.cellsOf t = n + 1)
    (hv : Value.okWide P w r b0 t v) (h : DataW.Trod enc P w base spare held t v d p) :
    ∃ (x : UInt32) (l : List UInt8), l.length = n ∧ v = .agg (.int .u32 (x.toNat : Int) :: u8s l).toArray := by
  obtain ⟨cs, rfl, hsz⟩ := okWide_struct ht hv
  obtain ⟨fuel, hf⟩ := h
  obtain ⟨y0, y1, m, _, hl, h0, h1⟩ := trod_struct2 ht hf
  simp only [Value.cells, o0, o1, c0, c1, List.drop_zero] at hl h0 h1
  obtain ⟨z, h2, _, h4⟩ := DataW.trod_int u0 h0
  obtain ⟨x, rfl⟩ := u32_of_wf h4
  have hlen : cs.toList.length = n + 1 := by rw [Array.length_toList, hsz, cT]
  obtain ⟨l, h5, h6⟩ := open_cells u1 he hc h1 (by simp [hsz, cT])
  refine ⟨x, l, h5, ?_⟩
  congr 1
  apply Array.ext'
  have h7 : cs.toList = cs.toList.take 1 ++ (cs.toList.drop 1).take n := by
    rw [List.take_of_length_le (l := cs.toList.drop 1) (by simp [hsz, cT]), List.take_append_drop]
  rw [h7, h2, h6]
  rfl
end
end Go.Proofs.Ythffodfnnjejnaa
