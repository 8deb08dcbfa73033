/- Rows of siblings that are sorted. No condition. -/
import Derived.Test.YteckblffpidigaaGreatDoorMtStab
namespace Go.Proofs.YteckblffpidigaaGreatDoor
open Go.RowKit
/-- A sibling whose cells are as many as they are. -/
abbrev SibU := { x : SibV // x.c.upto.length = 16 }
instance : Inhabited SibU := ⟨⟨⟨(0, 0), ctx0, none, 0, [], none, 0⟩, rfl⟩⟩
def sibU (x : SibU) : List Value := sibC x.1
theorem sibU_length (x : SibU) : (sibU x).length = 20 := sibC_length x.2
theorem sibU_one (x : SibU) : ∀ v ∈ sibU x, v.oneCell' = true := sibC_one x.1
def cfU (x y : SibU) : Int := cfD x.1.d y.1.d
theorem ltU (x y : SibU) : ltOf cfU x y = decide (dLt x.1.d y.1.d) := ltD x.1.d y.1.d
theorem swoU : Go.Sort.SWO (ltOf cfU) where
  irrefl x := swoD.irrefl x.1.d
  trans x y z := swoD.trans x.1.d y.1.d z.1.d
  ntrans x y z := swoD.ntrans x.1.d y.1.d z.1.d
theorem cmpLays_sib (blk off size : Nat) (w : World) : CmpLays Tryz.prog 27 #[] sibU 20 cfU blk off size w :=
  fun _ _ _ _ x y => (ordS2_any x.1 y.1 _).mono fun _ _ ⟨he, hw⟩ => ⟨he, hw⟩
section
variable {α : Type} [Inhabited α] {enc : α → List Value} {k : Nat}
theorem flatK_list (hk : ∀ x, (enc x).length = k) (hk0 : 0 < k) (d : Array α) : (Go.Sort.flatK enc k d).toList = d.toList.flatMap enc := by
  apply List.ext_getElem?
  intro t
  by_cases ht : t < d.size * k
  · have h1 := Go.Sort.get_flatK enc k d t ht
    have hlt : t / k < d.size := Nat.div_lt_of_lt_mul (by rw [Nat.mul_comm]; exact ht)
    have hm : t % k < k := Nat.mod_lt _ hk0
    have e1 : (Go.Sort.flatK enc k d).toList[t]? = some ((enc d[t / k]!)[t % k]!) := by
      rw [← h1, Array.getElem?_toList, getElem!_def, Array.getElem?_eq_getElem (by rw [Go.Sort.size_flatK]; exact ht)]
    have e0 : t = t / k * k + t % k := by rw [Nat.mul_comm]; exact (Nat.div_add_mod t k).symm
    have e2 := flat_get hk d.toList (t / k) (t % k) hm
    rw [← e0] at e2
    rw [e1, e2]
    have e3 : d.toList[t / k]? = some d[t / k]! := by
      rw [Array.getElem?_toList, getElem!_def, Array.getElem?_eq_getElem hlt]
    rw [e3]
    show _ = (enc d[t / k]!)[t % k]?
    rw [List.getElem!_eq_getElem?_getD, List.getElem?_eq_getElem (by rw [hk]; exact hm)]
    rfl
  · rw [List.getElem?_eq_none (by rw [Array.length_toList, Go.Sort.size_flatK]; omega)]
    rw [List.getElem?_eq_none]
    have : (d.toList.flatMap enc).length = d.size * k := by
      rw [List.length_flatMap]
      have : (d.toList.map fun x => (enc x).length) = List.replicate d.size k := by
        rw [List.eq_replicate_iff]
        refine ⟨by simp, fun b hb => ?_⟩
        obtain ⟨x, _, rfl⟩ := List.mem_map.1 hb
        exact hk x
      rw [this, List.sum_replicate_nat]
    omega
theorem arr_sort {w : World} {g m : Nat} {t : TypeId} {d : Array α} {os : Array Obj} {F0 rest : List Value} (hA : Arr w g t (F0 ++ rest)) (hl : F0.length = d.size * k) (hk : ∀ x, (enc x).length = k) (hk0 : 0 < k) : Arr (sortWorldK enc k w g 0 m d os) g t (d.toList.flatMap enc ++ rest) := by
  have hg := hA.lt
  unfold Arr sortWorldK
  rw [Go.Sort.heap_grow_old _ _ (by unfold Go.Sort.putRowK; rw [Go.Sort.size_putRow]; exact hg)]
  unfold Go.Sort.putRowK Go.Sort.putRow Go.Sort.mapBlock
  show (w.heap.modify g _)[g]? = _
  rw [Array.getElem?_modify, if_pos rfl, show w.heap[g]? = some (.cells (F0 ++ rest).toArray t (0, 0)) from hA]
  simp only [Option.map_some, Go.Sort.onCells]
  congr 2
  apply Array.ext'
  rw [← flatK_list hk hk0 d, List.toList_toArray]
  apply List.ext_getElem?
  intro i
  unfold Go.Sort.putCells
  rw [Array.getElem?_toList, Array.getElem?_mapIdx, Go.Sort.size_flatK]
  by_cases hi : i < d.size * k
  · rw [List.getElem?_append_left (by rw [Array.length_toList, Go.Sort.size_flatK]; exact hi)]
    have : (F0 ++ rest).toArray[i]? = some (F0[i]'(by omega)) := by
      rw [List.getElem?_toArray, List.getElem?_append_left (by omega), List.getElem?_eq_getElem]
    rw [this]
    simp only [Option.map_some, Nat.zero_le, Nat.zero_add, hi, and_self, if_true, Nat.sub_zero, id]
    rw [Array.getElem?_toList, getElem!_def, Array.getElem?_eq_getElem (by rw [Go.Sort.size_flatK]; exact hi)]
  · rw [List.getElem?_append_right (by rw [Array.length_toList, Go.Sort.size_flatK]; omega), Array.length_toList, Go.Sort.size_flatK, List.getElem?_toArray, List.getElem?_append_right (by omega), hl]
    cases rest[i - d.size * k]? with
    | none => rfl
    | some v => simp only [Option.map_some, Nat.zero_le, Nat.zero_add, hi, and_false, if_false]
theorem holds_arr (hk : ∀ x, (enc x).length = k) (hk0 : 0 < k) {w : World} {g : Nat} {t : TypeId} {d : Array α} {rest : List Value} (h : Arr w g t (d.toList.flatMap enc ++ rest)) : Go.Sort.HoldsK enc k w g 0 d := by
  intro i hi
  refine ⟨?_, h.frozen _⟩
  have hlen : (d.toList.flatMap enc).length = d.size * k := by rw [← flatK_list hk hk0 d, Array.length_toList, Go.Sort.size_flatK]
  rw [Nat.zero_add]
  refine h.cell ?_
  rw [List.getElem?_append_left (by rw [hlen]; rw [Go.Sort.size_flatK] at hi; exact hi), ← flatK_list hk hk0 d, Array.getElem?_toList, getElem!_def, Array.getElem?_eq_getElem hi]
  rfl
end
/-- What the stable sort leaves. -/
def SortSQ (L : List SibU) (g : Nat) (rest : List Value) (w : World) (e : Ending) (w' : World) : Prop := e = .returned (.tuple #[]) ∧ ∃ L' : List SibU, L'.Perm L ∧ (L'.Pairwise fun p q => ¬ dLt q.1.d p.1.d) ∧ Arr w' g 44 (L'.flatMap sibU ++ rest) ∧ Kx g w.heap.size w w'
set_option maxRecDepth 100000 in
theorem sortS_any {w : World} {g n c : Nat} {L : List SibU} {rest : List Value} (hA : Arr w g 44 (L.flatMap sibU ++ rest)) (hl : L.length = n) (hn : n ≤ 1000000) :
    Calls Tryz.prog 26 #[.slice (some ⟨g, 0, none⟩) n c, .func (.func 27) #[] #[]] w fun e w' => SortSQ L g rest w e w' := by
  obtain ⟨d, hd⟩ : ∃ d, d = L.toArray := ⟨_, rfl⟩
  have hds : d.size = n := by rw [hd]; simpa using hl
  have hdl : d.toList = L := by rw [hd]
  rw [← hdl] at hA
  have hH := holds_arr sibU_length (by omega) hA
  have hgl := hA.lt
  have eg : ∀ args w, (callFunc 27 args).run Tryz.prog w = .ok (.enter 27 args) w := enters_of Tryz.func27 (by kernel_rfl) rfl
  have hcon := sortStable_any 20 Tryz.sizeOf44 sibU cfU 27 #[] g 0 c d w eg (cmpLays_sib g 0 d.size w) ⟨sibU_length, sibU_one, hH, hgl⟩ swoU (by omega)
  rw [hds] at hcon
  refine hcon.mono ?_
  rintro e w' ⟨rfl, d', ⟨⟨hs', _, hp⟩, hS⟩, m, os, rfl⟩
  have hlen : (d.toList.flatMap sibU).length = d'.size * 20 := by rw [← flatK_list sibU_length (by omega) d, Array.length_toList, Go.Sort.size_flatK, hs']
  have hperm : d'.toList.Perm L := by
    have e1 : d'.extract 0 n = d' := by rw [← hds, ← hs']; simp
    have e2 : d.extract 0 n = d := by rw [← hds]; simp
    rw [e1, e2, hdl] at hp
    exact hp
  refine ⟨rfl, d'.toList, hperm, ?_, arr_sort hA hlen sibU_length (by omega), ?_⟩
  · rw [List.pairwise_iff_getElem]
    intro i j hi hj hij
    have hi' : i < d'.size := by simpa using hi
    have hj' : j < d'.size := by simpa using hj
    have := hS i j (Nat.zero_le _) hij (by omega)
    rw [ltU, decide_eq_false_iff_not] at this
    have g1 : d'[i]! = d'.toList[i] := by simp [hi']
    have g2 : d'[j]! = d'.toList[j] := by simp [hj']
    rw [g1, g2] at this
    exact this
  · have hb := sortG_below (enc := sibU) (k := 20) (B := 0) (m := m) (d := d') (os := os) (Nat.zero_le _) hgl
    exact ⟨hb.os, hb.tape, hb.output, hb.size, fun i hi hne => sortG_other hi hne⟩
end Go.Proofs.YteckblffpidigaaGreatDoor
