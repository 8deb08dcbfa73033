/- The walks of the law's same, and of One. No condition. -/
import Derived.Test.YthpgldfjcancjaaDoorPuUnl
import Derived.BigQuiet
namespace Go.Proofs.YthpgldfjcancjaaDoor
open Go.RowKit
def zV (zs : List Int) : List Value := zs.map fun z => Value.int .i64 z
theorem zV_nat (l : List Nat) : zV (l.map fun x : Nat => (x : Int)) = intV l := by unfold zV intV; rw [List.map_map]; rfl
theorem not_dec1 {p : Prop} [Decidable p] (h : ¬ p) : decide p = false := decide_eq_false h
set_option maxRecDepth 100000 in
set_option maxHeartbeats 4000000 in
theorem same_any {w : World} {A B : Option Addr} {n c m d : Nat} {xs ys : List Int} (hx : Rd w A n (zV xs)) (hy : Rd w B m (zV ys)) (hn : n ≤ 100000) :
    Calls Tryd.prog 10 #[.slice A n c, .slice B m d] w fun e w' => e = .returned (.bool (decide (xs = ys))) ∧ Gr w w' := by
  have hxl : xs.length = n := by have := hx.1; rwa [zV, List.length_map] at this
  have hyl : ys.length = m := by have := hy.1; rwa [zV, List.length_map] at this
  have HX := Lib.hid hx
  have HY := Lib.hid hy
  have HXL := Lib.hid hxl
  have HYL := Lib.hid hyl
  obtain ⟨bb, hbb⟩ : ∃ bb, bb = decide (xs = ys) := ⟨_, rfl⟩
  rw [← hbb]
  have HB := Lib.hid hbb
  clear hx hy hxl hyl hbb
  go_enter Tryd.func10, Tryd.ntmps10
  by_cases hnm : n = m
  · subst hnm
    go_upto_region 4 with fail
    go_loopw [5] (fun k wr => ∃ i : Nat, i ≤ n ∧ k = .int .i64 (i : Int) ∧ Hid (xs.take i = ys.take i) ∧ Gr w wr) (fun k _ => n - (intOf k).toNat)
    case atStart => exact ⟨0, by omega, rfl, Lib.hid (by simp), Gr.refl _⟩
    case round =>
      obtain ⟨i, hi, rfl, HTK, hG⟩ := hrel
      by_cases hlt : i < n
      · have hlti : (i : Int) < (n : Int) := by omega
        obtain ⟨x, hxi⟩ : ∃ x, xs[i]? = some x := ⟨_, List.getElem?_eq_getElem (by rw [HXL.out]; exact hlt)⟩
        obtain ⟨y, hyi⟩ : ∃ y, ys[i]? = some y := ⟨_, List.getElem?_eq_getElem (by rw [HYL.out]; exact hlt)⟩
        obtain ⟨a, hAe, hca⟩ := HX.out.2 i (.int .i64 x) (by unfold zV; rw [List.getElem?_map, hxi]; rfl)
        obtain ⟨b, hBe, hcb⟩ := HY.out.2 i (.int .i64 y) (by unfold zV; rw [List.getElem?_map, hyi]; rfl)
        subst hAe hBe
        have ka : wr.cell? (a.add i) = some (.int .i64 x) := Gr.cell hG hca
        have kb : wr.cell? (b.add i) = some (.int .i64 y) := Gr.cell hG hcb
        have HXI := Lib.hid hxi
        have HYI := Lib.hid hyi
        clear hca hcb hxi hyi
        by_cases hxy : x = y
        · subst hxy
          go_upto_region 6 with fail
          go_quiet (fail)
          have hK9 : Hid (xs.take (i + 1) = ys.take (i + 1)) := Lib.hid (by rw [List.take_add_one, List.take_add_one, HTK.out, HXI.out, HYI.out])
          have hG9 : Gr w (wr.drewN nq) := hG.trans (below_dr ⟨nq, rfl⟩)
          clear hG
          go_simp
          go_wp2_with fail
          exact ⟨⟨i + 1, by omega, by simp, hK9, hG9⟩, by simp only [intOf]; omega⟩
        · have hb0 : bb = false := by
            rw [HB.out]
            exact not_dec1 fun e => hxy (by
              have h1 := HXI.out
              rw [e, HYI.out] at h1
              exact (Option.some.inj h1).symm)
          have hxyb : (x == y) = false := beq_false_of_ne hxy
          subst hb0
          go_upto_region 6 with fail
          go_quiet (fail)
          have hG9 : Gr w (wr.drewN nq) := hG.trans (below_dr ⟨nq, rfl⟩)
          clear hG
          go_simp
          go_wp2_with fail
          go_ret
          exact ⟨rfl, hG9⟩
      · have hlti : ¬ (i : Int) < (n : Int) := by omega
        have hb1 : bb = true := by
          rw [HB.out]
          refine decide_eq_true ?_
          have h1 := HTK.out
          rw [List.take_of_length_le (by rw [HXL.out]; omega), List.take_of_length_le (by rw [HYL.out]; omega)] at h1
          exact h1
        subst hb1
        go_wp2_with fail
        go_ret
        exact ⟨rfl, hG⟩
  · have hnmi : ¬ (n : Int) = (m : Int) := by omega
    have hb0 : bb = false := by
      rw [HB.out]
      exact not_dec1 fun e => hnm (by rw [← HXL.out, ← HYL.out, e])
    subst hb0
    go_wp2_with fail
    go_ret
    exact ⟨rfl, Gr.refl _⟩
set_option maxRecDepth 100000 in
set_option maxHeartbeats 2000000 in
theorem one_any (w : World) : Calls Tryd.prog 16 #[.int .i64 1] w fun e w' => e = .returned (.string ⟨#[1]⟩) ∧ Gr w w' := by
  have hrd : Rd (w.alloc (.cells #[.int .u8 1] 5)) (some ⟨w.heap.size, 0, none⟩) 1 (u8s [1]) := Arr.rdAll (t := 5) (l := [1]) (Arr.newAt rfl rfl) rfl
  go_enter Tryd.func16, Tryd.ntmps16
  go_wp2_with (refine wpList_str _ rfl 44 9 (.tmp 5) rfl 5 (some ⟨w.heap.size, 0, none⟩) 1 1 [1] Tryd.underlying44 Tryd.underlying5 Tryd.underlying9 rfl hrd ?_)
  go_ret
  exact ⟨rfl, Gr.alloc _ _⟩
end Go.Proofs.YthpgldfjcancjaaDoor
