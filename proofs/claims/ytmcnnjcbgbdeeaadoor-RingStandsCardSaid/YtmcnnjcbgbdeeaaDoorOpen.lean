/- How a law's arguments are opened: bytes, arrays of numbers, slices of bytes. -/
import Derived.Test.YtmcnnjcbgbdeeaaDoorKitA
import Derived.ProofKit
import Derived.OpenShut
import Derived.ShutString
import Derived.ChangeOld
namespace Go.Proofs.YtmcnnjcbgbdeeaaDoor
open Go.ChangeShapes Go.WideShapes Go.ChangeAt Go.RowKit

section
variable {H : Type} {enc : TypeId × Value → H} {P : Program} {w : World} {base : Nat} {spare : Nat → Bool} {held : Bool}

/-- Numbers that fit a byte are bytes. -/
theorem bytes_of_wf : ∀ (zs : List Int), (∀ n ∈ zs, (Lit.int .u8 n).wf = true) → ∃ l : List UInt8, zs.map (Value.int .u8) = u8s l ∧ l.length = zs.length
  | [], _ => ⟨[], rfl, rfl⟩
  | z :: zs, h => by
    obtain ⟨l, hl, hn⟩ := bytes_of_wf zs fun n hn => h n (by simp [hn])
    have hz := h z (by simp)
    simp [Lit.wf, IntKind.min, IntKind.max, IntKind.signed, IntKind.bits] at hz
    refine ⟨UInt8.ofNat z.toNat :: l, ?_, by simp [hn]⟩
    simp only [List.map_cons, hl, u8s]
    congr 2
    rw [UInt8.toNat_ofNat']
    omega

/-- A slice of bytes that came in. -/
theorem open_u8s {r : Reach} {b0 : Nat} {t e : TypeId} {v : Value} {d : DataW H} {p : List MemPlace} (ht : P.underlying t = some (.slice e)) (he : P.underlying e = some (.int .u8)) (hc : P.cellsOf e = 1)
    (hv : Value.okWide P w r b0 t v) (h : DataW.Trod enc P w base (fun _ => true) held t v d p) :
    ∃ (A : Option Addr) (n c : Nat) (l : List UInt8), v = .slice A n c ∧ n ≤ c ∧ c ≤ maxLen ∧ Rd w A n (u8s l) := by
  obtain ⟨A, n, c, rfl⟩ := okWide_slice ht hv
  obtain ⟨fuel, hf⟩ := h
  rcases open_ints ht he hc hf with ⟨hcs, _⟩ | ⟨x, l, c', zs, hcs, _, hl, hm, hz, _, hcell, hwz⟩
  · simp [Value.cells] at hcs
    obtain ⟨rfl, rfl, rfl⟩ := hcs
    exact ⟨none, 0, 0, [], rfl, Nat.le_refl _, Nat.zero_le _, Rd.nil _ _⟩
  · simp [Value.cells] at hcs
    obtain ⟨rfl, rfl, rfl⟩ := hcs
    obtain ⟨m, hm1, hm2⟩ := bytes_of_wf (zs.take n) fun z hz' => hwz z (List.mem_of_mem_take hz')
    have hzl : zs.length = c := by simpa using hz
    refine ⟨_, n, c, m, rfl, hl, hm, ?_, fun i u hu => ⟨x, rfl, ?_⟩⟩
    · simp [hm2, hzl]; omega
    · rw [← hm1, List.getElem?_map, Option.map_eq_some_iff] at hu
      obtain ⟨z, hz1, rfl⟩ := hu
      rw [List.getElem?_take] at hz1
      split at hz1
      · rw [hcell i (by omega), List.getD_eq_getElem?_getD, hz1]; rfl
      · cases hz1

theorem open_array {r : Reach} {b0 : Nat} {t e : TypeId} {k : IntKind} {n : Nat} {v : Value} {d : DataW H} {p : List MemPlace} (ht : P.underlying t = some (.array n e)) (he : P.underlying e = some (.int k))
    (hc : P.cellsOf e = 1) (hC : P.cellsOf t = n) (hv : Value.okWide P w r b0 t v) (h : DataW.Trod enc P w base spare held t v d p) :
    ∃ zs : List Int, zs.length = n ∧ v = .agg (zs.map (Value.int k)).toArray ∧ ∀ z ∈ zs, (Lit.int k z).wf = true := by
  have hv' : ∃ cs, v = .agg cs ∧ cs.size = P.cellsOf t ∧ Row.okWide P w r b0 t cs := by simpa only [Value.okWide, ht] using hv
  obtain ⟨cs, rfl, hsz, _⟩ := hv'
  obtain ⟨fuel, hf⟩ := h
  obtain ⟨xs, m, _, _, hl, hn, hel⟩ := DataW.trod_array ht hf
  simp only [Value.cells, hc, Nat.mul_one] at hel
  have hel2 : ∀ i, i < n → ∃ z, cs[i]? = some (.int k z) ∧ (Lit.int k z).wf = true := by
    intro i hi
    have h1 := hel i hi
    rw [List.getElem?_eq_getElem (by omega)] at h1
    obtain ⟨z, h2, _, h4⟩ := DataW.trod_int he h1
    refine ⟨z, ?_, h4⟩
    have h5 : ((cs.toList.drop i).take 1)[0]? = some (.int k z) := by rw [h2]; rfl
    rw [List.getElem?_take, if_pos (by omega), List.getElem?_drop] at h5
    simpa using h5
  refine ⟨(List.range n).map fun i => intOf (cs[i]?.getD undef), by simp, ?_, fun z hz => ?_⟩
  · congr 1
    apply Array.ext_getElem?
    intro i
    by_cases hi : i < n
    · obtain ⟨z, hz, _⟩ := hel2 i hi
      simp [hi, hz, intOf]
    · rw [Array.getElem?_eq_none (by omega), Array.getElem?_eq_none (by simp; omega)]
  · rw [List.mem_map] at hz
    obtain ⟨i, hi, rfl⟩ := hz
    obtain ⟨z, hz, hw⟩ := hel2 i (by simpa using hi)
    rw [hz]; exact hw

theorem open_u8a {r : Reach} {b0 : Nat} {t e : TypeId} {n : Nat} {v : Value} {d : DataW H} {p : List MemPlace} (ht : P.underlying t = some (.array n e)) (he : P.underlying e = some (.int .u8))
    (hc : P.cellsOf e = 1) (hC : P.cellsOf t = n) (hv : Value.okWide P w r b0 t v) (h : DataW.Trod enc P w base spare held t v d p) :
    ∃ l : List UInt8, l.length = n ∧ v = .agg (u8s l).toArray := by
  obtain ⟨zs, h1, rfl, h2⟩ := open_array ht he hc hC hv h
  obtain ⟨l, h3, h4⟩ := bytes_of_wf zs h2
  exact ⟨l, by omega, by rw [h3]⟩
end

theorem u32_of_wf {z : Int} (h : (Lit.int .u32 z).wf = true) : ∃ x : UInt32, z = x.toNat := by
  simp [Lit.wf, IntKind.min, IntKind.max, IntKind.signed, IntKind.bits] at h
  exact ⟨UInt32.ofNat z.toNat, by rw [UInt32.toNat_ofNat']; omega⟩
theorem u64_of_wf {z : Int} (h : (Lit.int .u64 z).wf = true) : ∃ x : Nat, z = x ∧ x < 18446744073709551616 := by
  simp [Lit.wf, IntKind.min, IntKind.max, IntKind.signed, IntKind.bits] at h
  exact ⟨z.toNat, by omega, by omega⟩
theorem i64_of_wf {z : Int} (h : (Lit.int .i64 z).wf = true) : -9223372036854775808 ≤ z ∧ z ≤ 9223372036854775807 := by
  simp [Lit.wf, IntKind.min, IntKind.max, IntKind.signed, IntKind.bits] at h
  omega
theorem u8_of_wf {z : Int} (h : (Lit.int .u8 z).wf = true) : ∃ x : UInt8, z = x.toNat := by
  simp [Lit.wf, IntKind.min, IntKind.max, IntKind.signed, IntKind.bits] at h
  exact ⟨UInt8.ofNat z.toNat, by rw [UInt8.toNat_ofNat']; omega⟩
end Go.Proofs.YtmcnnjcbgbdeeaaDoor
