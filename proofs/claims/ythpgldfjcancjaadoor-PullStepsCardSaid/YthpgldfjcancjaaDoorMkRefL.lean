/- The walk of the reference's Node at a leaf. No condition. -/
import Derived.Test.YthpgldfjcancjaaDoorMkRef
import Derived.Test.YthpgldfjcancjaaDoorShaF
import Derived.BigQuiet
namespace Go.Proofs.YthpgldfjcancjaaDoor
open Go.RowKit
theorem inLeaf_take {R : Rw} {i a : Nat} {r : Nm × Nm} (h : R[i]? = some r) : inLeaf (R.take (i + 1)) a = inLeaf (R.take i) a ++ (if leafOf r.1 = a then [r] else []) := by
  unfold inLeaf
  rw [List.take_add_one, h, List.filter_append]
  congr 1
  by_cases e : leafOf r.1 = a <;> simp [e]
theorem joinR_app (S T : Rw) : joinR (S ++ T) = joinR S ++ joinR T := by unfold joinR; rw [List.flatMap_append]
theorem joinR_length (S : Rw) : (joinR S).length = 64 * S.length := by
  induction S with
  | nil => rfl
  | cons p S ih =>
    unfold joinR at ih ⊢
    rw [List.flatMap_cons, List.length_append, List.length_append, ih, p.1.2, p.2.2, List.length_cons]
    omega
theorem inLeaf_length (R : Rw) (a : Nat) : (inLeaf R a).length ≤ R.length := List.length_filter_le _ _
/-- The loop over the rows. -/
def RefLR (w0 : World) (R : Rw) (a : Nat) (v7 v8 : Value) (w : World) : Prop :=
  ∃ (i : Nat) (s : ByteArray), i ≤ R.length ∧ s = ⟨(joinR (inLeaf (R.take i) a)).toArray⟩ ∧ v7 = .string s ∧ v8 = .int .i64 (i : Int) ∧ Gr w0 w
theorem RefLR.out {w0 : World} {R : Rw} {a : Nat} {v7 v8 : Value} {w : World} (h : RefLR w0 R a v7 v8 w) :
  ∃ (i : Nat) (s : ByteArray), i ≤ R.length ∧ s = ⟨(joinR (inLeaf (R.take i) a)).toArray⟩ ∧ v7 = .string s ∧ v8 = .int .i64 (i : Int) ∧ Gr w0 w := h
theorem str_len {s : ByteArray} {l : List UInt8} (h : s = ⟨l.toArray⟩) : s.size = l.length := by rw [h]; simp [ByteArray.size]
theorem first_byte {s : ByteArray} {x : Nm} (hs : s = ⟨x.1.toArray⟩) : ∀ h, ((s[0]'h).toNat : Int) = (leafOf x : Int) := by
  subst hs
  intro h
  unfold leafOf
  rw [List.getD_eq_getElem?_getD, List.getElem?_eq_getElem (by rw [x.2]; omega)]
  rfl
set_option maxRecDepth 100000 in
set_option maxHeartbeats 8000000 in
theorem refLeaf_any {w : World} {B p : Nat} {R : Rw} (h : RT B w p R) (hR : R.length ≤ 1000) (a : Nat) :
    Calls Tryd.prog 15 #[.pointer (some ⟨p, 0, none⟩), .int .i64 4, .int .i64 (a : Int)] w fun e w' => e = .returned (.string ⟨(leafR R a).toArray⟩) ∧ Gr w w' := by
  obtain ⟨A0, c0, hA0, hO0⟩ := h.mem
  obtain ⟨n, hn⟩ : ∃ n, n = R.length := ⟨_, rfl⟩
  rw [← hn] at hA0 hO0 hR
  have HN := Lib.hid hn
  obtain ⟨sZ, hsZ⟩ : ∃ s : ByteArray, s = ⟨Z32.toArray⟩ := ⟨_, rfl⟩
  have HZ : Hid (∀ w, Calls Tryd.prog 25 #[] w fun e w' => e = .returned (.string sZ) ∧ Gr w w') := Lib.hid (fun w => by rw [hsZ]; exact none_ref w)
  have HSZ := Lib.hid hsZ
  clear h hn hsZ
  go_enter Tryd.func15, Tryd.ntmps15
  go_upto_region 4 with fail
  go_loopw [7, 8] (fun v7 v8 wr => RefLR w R a v7 v8 wr) (fun _ v8 _ => n - (intOf v8).toNat)
  case atStart => exact ⟨0, _, by omega, rfl, rfl, rfl, Gr.refl _⟩
  case round =>
    obtain ⟨i, s, hi, hs, rfl, rfl, hG⟩ := RefLR.out hrel
    rw [← HN.out] at hi
    have hsl := str_len hs
    rw [joinR_length] at hsl
    have hsl2 := inLeaf_length (R.take i) a
    have hsl3 : (R.take i).length ≤ i := by rw [List.length_take]; omega
    have hsz : s.size ≤ 64 * i := by omega
    have HS := Lib.hid hs
    clear hrel hs hsl hsl2 hsl3
    have c0r : wr.cell? ⟨p, 0, none⟩ = some (.slice A0 n c0) := (hA0.gr hG).cell rfl
    by_cases hlt : i < n
    · have hlR : i < R.length := by rw [← HN.out]; exact hlt
      obtain ⟨r, hr⟩ : ∃ r, R[i]? = some r := ⟨_, List.getElem?_eq_getElem hlR⟩
      obtain ⟨gN, rfl, hgN, hrng⟩ := own_at2 hO0 hlt hr
      obtain ⟨sX, hsX⟩ : ∃ s : ByteArray, s = ⟨r.1.1.toArray⟩ := ⟨_, rfl⟩
      obtain ⟨sY, hsY⟩ : ∃ s : ByteArray, s = ⟨r.2.1.toArray⟩ := ⟨_, rfl⟩
      have hXs : sX.size = 32 := (str_len hsX).trans r.1.2
      have hYs : sY.size = 32 := (str_len hsY).trans r.2.2
      have HRC : Hid (rowC r = [.string sX, .string sY]) := Lib.hid (by rw [hsX, hsY]; rfl)
      rw [HRC.out] at hrng
      have HX := Lib.hid hsX
      have HY := Lib.hid hsY
      have rgq := hG.range hrng
      have kcq : wr.cell? ⟨gN, i * 2, none⟩ = some (.string sX) := rgq 0 _ rfl
      have dcq : wr.cell? ⟨gN, i * 2 + 1, none⟩ = some (.string sY) := rgq 1 _ rfl
      have hlti : (i : Int) < (n : Int) := by omega
      have hx0 := first_byte hsX
      clear hsX hsY
      have hle : leafOf r.1 < 256 := leafOf_lt r.1
      have hwr : wrap64 (leafOf r.1 : Int) = (leafOf r.1 : Int) := by unfold wrap64; omega
      by_cases hla : leafOf r.1 = a
      · have hcmp : ∀ h, (wrap64 ((sX[0]'h).toNat : Int) == (a : Int)) = true := fun h => by rw [hx0 h, hwr, hla]; simp
        have hT := Lib.hid (inLeaf_take (a := a) hr)
        rw [if_pos hla] at hT
        clear hx0 hwr hla hle
        have n1 : ¬ 9223372036854775807 < s.size + sX.size := by omega
        have n2 : ¬ 9223372036854775807 < (s ++ sX).size + sY.size := by rw [ByteArray.size_append]; omega
        go_upto_region 7 with fail
        go_quiet (fail)
        have hR9 : RefLR w R a (.string (s ++ sX ++ sY)) (.int .i64 ((i : Int) + 1)) (wr.drewN nq) := ⟨i + 1, _, by omega, by rw [hT.out, joinR_app, HS.out, HX.out, HY.out, str_append, str_append]; simp [joinR], rfl, by simp, hG.trans (below_dr ⟨nq, rfl⟩)⟩
        clear n1 n2
        go_simp
        go_wp2_with fail
        exact ⟨hR9, by simp only [intOf]; omega⟩
      · have hcmp : ∀ h, (wrap64 ((sX[0]'h).toNat : Int) == (a : Int)) = false := fun h => by rw [hx0 h, hwr]; exact beq_false_of_ne (by omega)
        have hT := Lib.hid (inLeaf_take (a := a) hr)
        rw [if_neg hla, List.append_nil] at hT
        clear hx0 hwr hla hle
        have hR9 : RefLR w R a (.string s) (.int .i64 ((i : Int) + 1)) wr := ⟨i + 1, s, by omega, by rw [hT.out]; exact HS.out, rfl, by simp, hG⟩
        go_wp2_with fail
        exact ⟨hR9, by simp only [intOf]; omega⟩
    · obtain rfl : i = n := by omega
      have hsE : s = ⟨(joinR (inLeaf R a)).toArray⟩ := by
        have h1 := HS.out
        rw [List.take_of_length_le (Nat.le_of_eq HN.out.symm)] at h1
        exact h1
      have hjl := joinR_length (inLeaf R a)
      by_cases he : (inLeaf R a).length = 0
      · have hle : leafR R a = Z32 := by unfold leafR; rw [if_pos he]
        have hj : joinR (inLeaf R a) = [] := List.eq_nil_of_length_eq_zero (by rw [hjl, he])
        have hs0 : (s.toList == []) = true := by rw [hsE, hj]; simp
        have HLE := Lib.hid hle
        clear hsE hjl he hle hj
        go_wp2_with (go_at_call 25; refine (HZ.out _).mono ?_; rintro e w1 ⟨rfl, hG1⟩)
        go_ret
        exact ⟨by rw [HLE.out, HSZ.out]; rfl, hG.trans hG1⟩
      · have hle : leafR R a = shaL (joinR (inLeaf R a)) := by unfold leafR; rw [if_neg he]
        have hs0 : (s.toList == []) = false := by
          refine beq_false_of_ne fun e => he ?_
          have h2 := congrArg List.length e
          rw [hsE] at h2
          simp at h2
          have h3 : (joinR (inLeaf R a)).length = 0 := by rw [h2]; rfl
          omega
        have hil := inLeaf_length R a
        have hnR := HN.out
        have HSum : Hid (∀ w, Calls Tryd.prog 26 #[.string s] w fun e w' => e = .returned (.string ⟨(leafR R a).toArray⟩) ∧ Gr w w') := Lib.hid (fun w => by
          rw [hsE, hle]
          exact refSum_any _ (by omega) w)
        clear hsE hjl he hle hnR hil
        go_wp2_with (go_at_call 26; refine (HSum.out _).mono ?_; rintro e w1 ⟨rfl, hG1⟩)
        go_ret
        exact ⟨rfl, hG.trans hG1⟩
end Go.Proofs.YthpgldfjcancjaaDoor
