/- The walk of the law PullLeaves. No condition. -/
import Derived.Test.YthpgldfjcancjaaDoorPuFour
namespace Go.Proofs.YthpgldfjcancjaaDoor
open Go.RowKit
def LvLoop (q : Nat) (w0 : World) (k : Value) (w : World) : Prop := ∃ i : Nat, i ≤ q ∧ k = .int .i64 (i : Int) ∧ Gr w0 w
theorem LvLoop.out {q : Nat} {w0 : World} {k : Value} {w : World} (h : LvLoop q w0 k w) : ∃ i : Nat, i ≤ q ∧ k = .int .i64 (i : Int) ∧ Gr w0 w := h
set_option maxRecDepth 100000 in
set_option maxHeartbeats 8000000 in
theorem law_leaves (A : Option Addr) (n c : Nat) (f : Nat → RowM) (w : World) (hA : Rows3 w A n f) (gw : Glob w) :
    Calls Tryd.prog 3 #[.slice A n c] w fun e w' => e = .returned (.bool true) ∧ Below w.heap.size w w' := by
  have HT := Lib.hid (trees_any (c := c) hA gw)
  clear hA
  have mk1 : True := trivial
  have mk2 : True := trivial
  go_enter Tryd.func3, Tryd.ntmps3
  go_upto_region 2 with (go_at_call 6; refine HT.out.mono ?_; rintro e w1 ⟨g, b, g', b', p, p', m, R, S, rfl, hm, hF, hAp, hG1⟩)
  have gw1 : Glob w1 := Glob.gr hG1 gw
  have HF := Lib.hid hF
  obtain ⟨q, hq⟩ : ∃ q, q = (levelL R S 5).length := ⟨_, rfl⟩
  obtain ⟨T, hT⟩ : ∃ T, T = toldL R S 5 := ⟨_, rfl⟩
  have hq1 : q ≤ 1024 := by rw [hq]; exact level_len R S
  have hRl : R.length ≤ 1000 := by have := hF.fa; omega
  have hSl : S.length ≤ 1000 := by have := hF.fb; omega
  have HN1 : Hid (∀ w2, Gr w1 w2 → Calls Tryd.prog 7 #[.pointer none, .pointer (some ⟨g', 0, none⟩)] w2 fun e w' => e = .returned (.tuple #[.slice none 0 0, .int .i64 0, .int .i64 1]) ∧ Gr w2 w') := Lib.hid (fun w2 h => leaves_nil1 (HF.out.gr h).tb)
  have HL : Hid (∀ w2, Gr w1 w2 → Calls Tryd.prog 7 #[.pointer (some ⟨g, 0, none⟩), .pointer (some ⟨g', 0, none⟩)] w2 fun e w' => ∃ A c, e = .returned (.tuple #[.slice A q c, .int .i64 (T : Int), .int .i64 0]) ∧ Rd w' A q (intV (levelL R S 5)) ∧ Gr w2 w') := Lib.hid (fun w2 h => leaves_row (HF.out.gr h).ta (HF.out.gr h).tb hq hT)
  have HRL : Hid (∀ w2, Gr w1 w2 → Calls Tryd.prog 8 #[.pointer (some ⟨p, 0, none⟩), .pointer (some ⟨p', 0, none⟩)] w2 fun e w' => ∃ A c, e = .returned (.tuple #[.slice A q c, .int .i64 (T : Int)]) ∧ Rd w' A q (intV (levelL R S 5)) ∧ Gr w2 w') := Lib.hid (fun w2 h => refLeaves_row (HF.out.gr h).ra (HF.out.gr h).rb hRl hSl hq hT)
  have HAP : Hid (∀ w2, Gr w1 w2 → ∀ x, x ∈ levelL R S 5 → Calls Tryd.prog 11 #[.pointer (some ⟨p, 0, none⟩), .pointer (some ⟨p', 0, none⟩), .int .i64 (x : Int)] w2 fun e w' => e = .returned (.bool true) ∧ Gr w2 w') := Lib.hid (fun w2 h x hx => apart_told (HF.out.gr h).ra (HF.out.gr h).rb hRl hSl hx)
  have HQ := Lib.hid hq
  clear hq hT hF hAp hRl hSl hm HT
  go_upto_region 6 with first
    | (clear mk1; go_at_call 7; refine (HN1.out w1 (Gr.refl _)).mono ?_; rintro e w2 ⟨rfl, hG2⟩)
    | (clear mk2; go_at_call 7; refine (leaves_nil2 (some ⟨g, 0, none⟩)).mono ?_; rintro e w3 ⟨rfl, hG3⟩)
    | (go_at_call 7; refine (HL.out w3 (hG2.trans hG3)).mono ?_; rintro e w4 ⟨A4, c4, rfl, hr4, hG4⟩)
    | (go_at_call 8; refine (HRL.out w4 (hG2.trans (hG3.trans hG4))).mono ?_; rintro e w5 ⟨A5, c5, rfl, hr5, hG5⟩)
  have hG15 := hG2.trans (hG3.trans (hG4.trans hG5))
  have gw5 := Glob.gr hG15 gw1
  have hr45 := Lib.hid (hG5.rd hr4)
  have HR5 := Lib.hid hr5
  clear hG2 hG3 hG4 hG5 hr4 hr5 HL HRL HN1 HF
  go_upto_region 9 with first
    | (go_at_call 9; refine (pulls_any gw5).mono ?_; rintro e w6 ⟨rfl, hG6⟩)
    | (go_at_call 10; refine (same_yes (hG6.rd hr45.out) (hG6.rd HR5.out) (by omega)).mono ?_; rintro e w7 ⟨rfl, hG7⟩)
  have hG17 := hG15.trans (hG6.trans hG7)
  have HR7 := Lib.hid ((hG6.trans hG7).rd hr45.out)
  clear hG15 hG6 hG7 hr45 HR5 gw5 gw1
  go_loopw [18] (fun k wr => LvLoop q w7 k wr) (fun k _ => q - (intOf k).toNat)
  case atStart => exact ⟨0, by omega, rfl, Gr.refl _⟩
  case round =>
    obtain ⟨i, hi, rfl, hGr⟩ := LvLoop.out hrel
    clear hrel
    by_cases hlt : i < q
    · obtain ⟨x, hx⟩ : ∃ x, (levelL R S 5)[i]? = some x := ⟨_, List.getElem?_eq_getElem (by rw [← HQ.out]; exact hlt)⟩
      obtain ⟨ad, rfl, hcx⟩ := HR7.out.2 i (.int .i64 (x : Int)) (intV_at hx)
      have kx : wr.cell? (ad.add i) = some (.int .i64 (x : Int)) := Gr.cell hGr hcx
      have HA := Lib.hid (HAP.out wr (hG17.trans hGr) x (List.mem_of_getElem? hx))
      have c1 : (i : Int) < (q : Int) := by omega
      clear hx hcx
      go_wp2_with (go_at_call 11; refine HA.out.mono ?_; rintro e w8 ⟨rfl, hG8⟩)
      exact ⟨⟨i + 1, by omega, by simp, hGr.trans hG8⟩, by simp only [intOf]; omega⟩
    · have c1 : ¬ (i : Int) < (q : Int) := by omega
      have hGe := hG1.trans (hG17.trans hGr)
      go_wp2_with fail
      go_ret
      exact ⟨rfl, hGe⟩
end Go.Proofs.YthpgldfjcancjaaDoor
