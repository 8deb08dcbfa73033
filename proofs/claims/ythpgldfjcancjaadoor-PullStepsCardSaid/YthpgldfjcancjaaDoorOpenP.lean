/- Slices of slices of bytes, opened; the tables of sha2 out of what is listed. No condition. -/
import Derived.Deep.Matrix
import Derived.Lib.LaidTab
import Derived.Stop.LaidErr
import Derived.LaidMore
import Derived.MakeChecks
import Derived.Test.YthpgldfjcancjaaDoorKitM
import Derived.Test.YthpgldfjcancjaaDoorKitS
namespace Go.Proofs.YthpgldfjcancjaaDoor
open Go.ChangeShapes Go.WideShapes Go.ChangeAt Go.RowKit
section
variable {H : Type} {enc : TypeId × Value → H} {P : Program} {w : World} {base : Nat} {held : Bool}
theorem open_parts {r : Reach} {b0 : Nat} {t e q : TypeId} {v : Value} {d : DataW H} {p : List MemPlace} (ht : P.underlying t = some (.slice e)) (he : P.underlying e = some (.slice q)) (hq : P.underlying q = some (.int .u8)) (ce : P.cellsOf e = 1) (cq : P.cellsOf q = 1)
    (hv : Value.okWide P w r b0 t v) (h : DataW.Trod enc P w base (fun _ => true) held t v d p) :
    ∃ (A : Option Addr) (n c : Nat) (ps : List Part), v = .slice A n c ∧ n ≤ c ∧ c ≤ maxLen ∧ Parts w A n ps := by
  obtain ⟨A, n, c, rfl⟩ := okWide_slice ht hv
  obtain ⟨fuel, hf⟩ := h
  rcases Deep.open_int_rows ht he hq ce cq hf with ⟨hcs, _⟩ | ⟨x, l, c', A', L, C, Z, hcs, _, hl, hm, _, hr⟩
  · simp [Value.cells] at hcs
    obtain ⟨rfl, rfl, rfl⟩ := hcs
    exact ⟨none, 0, 0, [], rfl, Nat.le_refl _, Nat.zero_le _, Rd.nil _ _, fun p hp => by cases hp⟩
  · simp [Value.cells] at hcs
    obtain ⟨rfl, rfl, rfl⟩ := hcs
    have each : ∀ k, k < c → ∃ m : List UInt8, Rd w (A' k) (L k) (u8s m) := by
      intro k hk
      obtain ⟨_, h1, h2, h3, h4, h5, h6⟩ := hr k hk
      obtain ⟨m, hm1, hm2⟩ := bytes_of_wf ((Z k).take (L k)) fun z hz' => h4 z (List.mem_of_mem_take hz')
      refine ⟨m, by simp [hm2, h3]; omega, fun i u hu => ?_⟩
      rw [← hm1, List.getElem?_map, Option.map_eq_some_iff] at hu
      obtain ⟨z, hz1, rfl⟩ := hu
      rw [List.getElem?_take] at hz1
      split at hz1
      · rename_i hi
        cases e0 : A' k with
        | none => have := h5 e0; omega
        | some a' =>
          refine ⟨a', rfl, ?_⟩
          rw [(h6 a' e0).2 i (by omega), List.getD_eq_getElem?_getD, hz1]; rfl
      · cases hz1
    obtain ⟨y, hy⟩ := Deep.choose_lt each
    refine ⟨some x, n, c, (List.range n).map fun k => ⟨A' k, L k, C k, y k⟩, rfl, hl, hm, ⟨by simp, fun i u hu => ⟨x, rfl, ?_⟩⟩, fun p hp => ?_⟩
    · simp only [List.map_map, List.getElem?_map, Option.map_eq_some_iff] at hu
      obtain ⟨k, hk, rfl⟩ := hu
      obtain ⟨hk1, rfl⟩ := List.getElem?_eq_some_iff.1 hk
      simp only [List.length_range] at hk1
      simp only [List.getElem_range]
      exact (hr i (by omega)).1
    · rw [List.mem_map] at hp
      obtain ⟨k, hk, rfl⟩ := hp
      rw [List.mem_range] at hk
      exact ⟨hy k (by omega), (hr k (by omega)).2.1⟩
end
theorem laid_is : ([("casket/sha2.keys", Rows.laid_casket_sha2_keys), ("casket/sha2.start", Rows.laid_casket_sha2_start)] : List (String × DataW Unit)) = [("casket/sha2.keys", Lib.tabData .u32 (keysL.map fun x => (x.toNat : Int))), ("casket/sha2.start", Lib.tabData .u32 (startL.map fun x => (x.toNat : Int)))] := by kernel_rfl
theorem gKeys : Tryd.prog.globalNamed "casket/sha2.keys" = some 2 := by kernel_rfl
theorem gStart : Tryd.prog.globalNamed "casket/sha2.start" = some 1 := by kernel_rfl
theorem tKeys : (Tryd.prog.globals[(2 : Nat)]?).map (·.type) = some 85 := by kernel_rfl
theorem tStart : (Tryd.prog.globals[(1 : Nat)]?).map (·.type) = some 86 := by kernel_rfl
theorem range_of_tab {P : Program} {W : World} {name : String} {l : List UInt32} {g : Nat} (h : Lib.TabIs P W name .u32 (l.map fun x => (x.toNat : Int))) (hg : P.globalNamed name = some g) : W.rangeAt g 0 (u32s l) := by
  intro j v hv
  have := World.var?_cell hg h j
  rw [Nat.zero_add, this]
  simpa [u32s] using hv
theorem glob_of_laid {W : World} (h : laidMetH Tryd.prog [("casket/sha2.keys", Rows.laid_casket_sha2_keys), ("casket/sha2.start", Rows.laid_casket_sha2_start)] W) : Glob W := by
  rw [laid_is, MakeChecks.laidMetH_plain _ _ _ (by kernel_rfl)] at h
  have h1 := Lib.tabIs_of_head gKeys tKeys Tryd.underlying85 Tryd.underlying84 (by kernel_rfl) (by kernel_rfl) h
  have h2 := Lib.tabIs_of_head gStart tStart Tryd.underlying86 Tryd.underlying84 (by kernel_rfl) (by kernel_rfl) (laidMet.tail h)
  exact ⟨range_of_tab h2 gStart, range_of_tab h1 gKeys⟩
end Go.Proofs.YthpgldfjcancjaaDoor
