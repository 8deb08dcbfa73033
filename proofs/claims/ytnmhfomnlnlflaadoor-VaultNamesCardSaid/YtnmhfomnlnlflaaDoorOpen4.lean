/- Two slices of bytes in an array, opened. No condition. -/
import Derived.Test.YtnmhfomnlnlflaaDoorOpen
namespace Go.Proofs.YtnmhfomnlnlflaaDoor
open Go.ChangeShapes Go.WideShapes Go.ChangeAt Go.RowKit
section
variable {H : Type} {enc : TypeId × Value → H} {P : Program} {w : World} {base : Nat} {held : Bool}
theorem open_u8s_cells {t e : TypeId} {fuel : Nat} {cs : List Value} {x : DataW H × List MemPlace} (ht : P.underlying t = some (.slice e)) (he : P.underlying e = some (.int .u8)) (hc : P.cellsOf e = 1)
    (hf : DataW.trod enc P w base (fun _ => true) held fuel t cs = some x) : ∃ (A : Option Addr) (n c : Nat) (l : List UInt8), cs = [.slice A n c] ∧ n ≤ c ∧ Rd w A n (u8s l) := by
  rcases open_ints ht he hc hf with ⟨hcs, _⟩ | ⟨x, n, c, zs, hcs, _, hl, hm, hz, _, hcell, hwz⟩
  · exact ⟨none, 0, 0, [], hcs, Nat.le_refl _, Rd.nil _ _⟩
  · obtain ⟨m, hm1, hm2⟩ := bytes_of_wf (zs.take n) fun z hz' => hwz z (List.mem_of_mem_take hz')
    have hzl : zs.length = c := by simpa using hz
    refine ⟨_, n, c, m, hcs, hl, ?_, fun i u hu => ⟨x, rfl, ?_⟩⟩
    · simp [hm2, hzl]; omega
    · rw [← hm1, List.getElem?_map, Option.map_eq_some_iff] at hu
      obtain ⟨z, hz1, rfl⟩ := hu
      rw [List.getElem?_take] at hz1
      split at hz1
      · rw [hcell i (by omega), List.getD_eq_getElem?_getD, hz1]; rfl
      · cases hz1
theorem open_pair {r : Reach} {b0 : Nat} {t q e : TypeId} {v : Value} {d : DataW H} {p : List MemPlace} (ht : P.underlying t = some (.array 2 q)) (hq : P.underlying q = some (.slice e)) (he : P.underlying e = some (.int .u8)) (hc : P.cellsOf e = 1) (cq : P.cellsOf q = 1) (cT : P.cellsOf t = 2)
    (hv : Value.okWide P w r b0 t v) (h : DataW.Trod enc P w base (fun _ => true) held t v d p) :
    ∃ (A : Option Addr) (n c : Nat) (l : List UInt8) (B : Option Addr) (m k : Nat) (s : List UInt8), v = .agg #[.slice A n c, .slice B m k] ∧ n ≤ c ∧ m ≤ k ∧ Rd w A n (u8s l) ∧ Rd w B m (u8s s) := by
  have hv' : ∃ cs, v = .agg cs ∧ cs.size = P.cellsOf t ∧ Row.okWide P w r b0 t cs := by simpa only [Value.okWide, ht] using hv
  obtain ⟨cs, rfl, hsz, _⟩ := hv'
  obtain ⟨fuel, hf⟩ := h
  obtain ⟨xs, m, _, _, _, hn, hel⟩ := DataW.trod_array ht hf
  simp only [cq, Nat.mul_one, Value.cells] at hel
  have h0 := hel 0 (by omega)
  have h1 := hel 1 (by omega)
  rw [List.getElem?_eq_getElem (by omega)] at h0 h1
  obtain ⟨A, n, c, l, e1, hnc, hr⟩ := open_u8s_cells hq he hc h0
  obtain ⟨B, m2, k, s, e2, hmk, hs⟩ := open_u8s_cells hq he hc h1
  refine ⟨A, n, c, l, B, m2, k, s, ?_, hnc, hmk, hr, hs⟩
  congr 1
  apply Array.ext'
  have hlen : cs.toList.length = 2 := by rw [Array.length_toList, hsz, cT]
  have h7 : cs.toList = cs.toList.take 1 ++ (cs.toList.drop 1).take 1 := by
    rw [List.take_of_length_le (l := cs.toList.drop 1) (by simp [hsz, cT]), List.take_append_drop]
  rw [List.drop_zero] at e1
  rw [h7, e1, e2]
  rfl
end
end Go.Proofs.YtnmhfomnlnlflaaDoor
