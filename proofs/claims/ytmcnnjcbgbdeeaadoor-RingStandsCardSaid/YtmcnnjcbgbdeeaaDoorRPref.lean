/- The walks of the ring's Prefer and of the reference's Same. No condition. -/
import Derived.Test.YtmcnnjcbgbdeeaaDoorRNew
import Derived.BigQuiet
namespace Go.Proofs.YtmcnnjcbgbdeeaaDoor
open Go.RowKit
/-- Numbers, as a row holds them. -/
def numV (l : List Nat) : List Value := l.map fun x : Nat => Value.int .i64 (x : Int)
theorem numV_length (l : List Nat) : (numV l).length = l.length := by simp [numV]
theorem numV_at {l : List Nat} {k x : Nat} (h : l[k]? = some x) : (numV l)[k]? = some (.int .i64 (x : Int)) := by rw [numV, List.getElem?_map, h]; rfl
theorem numV_take (l : List Nat) (k : Nat) : (numV l).take k = numV (l.take k) := by simp [numV]
theorem numV_drop (l : List Nat) (k : Nat) : (numV l).drop k = numV (l.drop k) := by simp [numV]
theorem Rd.num {w : World} {A : Option Addr} {n : Nat} {l : List Nat} (h : Rd w A n (numV l)) {k : Nat} (hk : k < n) : ∃ ad x, A = some ad ∧ l[k]? = some x ∧ w.cell? (ad.add k) = some (.int .i64 (x : Int)) := by
  have hl : l.length = n := by have := h.1; rwa [numV_length] at this
  obtain ⟨ad, e, hc⟩ := h.2 k _ (numV_at (List.getElem?_eq_getElem (show k < l.length by omega)))
  exact ⟨ad, _, e, List.getElem?_eq_getElem (by omega), hc⟩
theorem take_eq_succ {a b : List Nat} {k : Nat} (h : a.take k = b.take k) (ha : a[k]? = b[k]?) : a.take (k + 1) = b.take (k + 1) := by
  rw [List.take_add_one, List.take_add_one, h, ha]
/-- How far they are the same. -/
def SameR (xs ys : List Nat) (n : Nat) (w : World) (i : Value) (wr : World) : Prop := ∃ k : Nat, k ≤ n ∧ i = .int .i64 (k : Int) ∧ xs.take k = ys.take k ∧ Gr w wr
set_option maxRecDepth 100000 in
set_option maxHeartbeats 4000000 in
theorem same_any (A B : Option Addr) (n c m d : Nat) (xs ys : List Nat) (w : World) (hx : Rd w A n (numV xs)) (hy : Rd w B m (numV ys)) (hn : n ≤ 1000000) :
    Calls Tryd.prog 10 #[.slice A n c, .slice B m d] w fun e w' => e = .returned (.bool (decide (xs = ys))) ∧ Gr w w' := by
  have hxl : xs.length = n := by have := hx.1; rwa [numV_length] at this
  have hyl : ys.length = m := by have := hy.1; rwa [numV_length] at this
  by_cases hnm : n = m
  · subst hnm
    obtain ⟨r, hr⟩ : ∃ r : Bool, r = decide (xs = ys) := ⟨_, rfl⟩
    rw [← hr]
    have HR := Lib.hid hr
    have HXL := Lib.hid hxl
    have HYL := Lib.hid hyl
    clear hr hxl hyl
    go_enter Tryd.func10, Tryd.ntmps10
    go_wp2_with fail
    go_simp
    go_loopw [5] (fun i wr => SameR xs ys n w i wr) (fun i _ => n - (intOf i).toNat)
    case atStart => exact ⟨0, Nat.zero_le _, rfl, rfl, Gr.refl _⟩
    case round =>
      obtain ⟨k, hk, rfl, hno, hG⟩ := hrel
      have HNO := Lib.hid hno
      clear hno
      by_cases hlt : k < n
      · have hki : (k : Int) < (n : Int) := by omega
        obtain ⟨ad, x, rfl, hxk, hcx⟩ := (Gr.rd hG hx).num hlt
        obtain ⟨bd, y, rfl, hyk, hcy⟩ := (Gr.rd hG hy).num hlt
        have HX := Lib.hid hxk
        have HY := Lib.hid hyk
        clear hxk hyk
        by_cases hxy : x = y
        · subst hxy
          have hS : Hid (xs.take (k + 1) = ys.take (k + 1)) := take_eq_succ HNO.out (by rw [HX.out, HY.out])
          go_upto_region 6 with fail
          go_quiet (fail)
          go_wp2_with fail
          exact ⟨⟨k + 1, hlt, by go_num, hS.out, Below.trans hG ⟨rfl, rfl, rfl, Nat.le_refl _, fun _ _ => rfl⟩⟩, by simp [intOf]; omega⟩
        · have hne : ¬ (x : Int) = (y : Int) := by omega
          have hrf : r = false := by
            rw [HR.out, decide_eq_false_iff_not]
            rintro rfl
            have := HX.out
            rw [HY.out] at this
            injection this with this
            exact hxy this.symm
          subst hrf
          go_upto_region 6 with fail
          go_quiet (fail)
          go_wp2_with fail
          go_ret
          exact ⟨rfl, Below.trans hG ⟨rfl, rfl, rfl, Nat.le_refl _, fun _ _ => rfl⟩⟩
      · have hki : ¬ (k : Int) < (n : Int) := by omega
        have hrt : r = true := by
          rw [HR.out, decide_eq_true_iff]
          have h := HNO.out
          have h1 := HXL.out
          have h2 := HYL.out
          rwa [List.take_of_length_le (by omega), List.take_of_length_le (by omega)] at h
        subst hrt
        go_wp2_with fail
        go_ret
        exact ⟨rfl, hG⟩
  · have hne : ¬ (n : Int) = (m : Int) := by omega
    rw [decide_eq_false (fun h => hnm (by rw [← hxl, ← hyl, h]))]
    clear hx hy hxl hyl
    go_enter Tryd.func10, Tryd.ntmps10
    go_wp2_with fail
    go_ret
    exact ⟨rfl, Gr.refl _⟩
theorem run_cut_hm {P : Program} {T e : TypeId} {A : Option Addr} {n c hi mx : Nat} {h m : Int} (hT : P.underlying T = some (.slice e)) (hsz : (P.info? e).map (·.size) = some 1) (hh : h = hi) (hm : m = mx) (h1 : hi ≤ mx) (h2 : mx ≤ c) (w : World) :
    (Instr.sliceAt T (.slice A n c) none (some (.int .i64 h)) (some (.int .i64 m))).run P w = .ok (.slice A hi mx) w := by
  subst hh hm
  have e1 : P.elem T = e := by simp [Program.elem, hT]
  have e2 : A.map (·.add 0) = A := by cases A <;> simp [add_zero_]
  rw [run_sliceAt_slice w T _ _ _ _ (by rw [e1]; exact hT), run_slice_hm w T _ _ _ (by rw [e1]; exact hT) _ _ _ _ (by omega) (by omega) (by omega), e1]
  simp only [run_size1 hsz, Result.andThen_ok, sliced, Nat.zero_mul, e2, ite_self, Nat.sub_zero, Int.toNat_natCast]
/-- What Prefer tells. -/
def PrefAt (W : List Nat) (n : Nat) (w : World) (e : Ending) (w' : World) : Prop := ∃ A, e = .returned (.tuple #[.slice A n n, .int .i64 0]) ∧ Rd w' A n (numV (W.take n)) ∧ Gr w w'
set_option maxRecDepth 100000 in
set_option maxHeartbeats 4000000 in
theorem prefer_any {w : World} {gR reps points : Nat} (h : RingAt w gR reps points) (h1 : 1 ≤ reps) (h2 : reps ≤ 8) (h3 : 1 ≤ points) (h4 : points ≤ 64) (K : List UInt8) (hK : K.length = 32) (n : Nat) (hn1 : 1 ≤ n) (hn2 : n ≤ reps) :
    Calls Tryd.prog 11 #[.pointer (some ⟨gR, 0, none⟩), .agg (u8s K).toArray, .int .i64 (n : Int)] w fun e w' => PrefAt (nearL (nearOf atP (beNat (K.take 8)) points) reps) n w e w' := by
  obtain ⟨W, hW⟩ : ∃ W, W = nearL (nearOf atP (beNat (K.take 8)) points) reps := ⟨_, rfl⟩
  have HWk : Hid (∀ w, RingAt w gR reps points → Calls Tryd.prog 9 #[.pointer (some ⟨gR, 0, none⟩), .agg (u8s K).toArray] w fun e w' => ∃ u, e = .returned u ∧ w'.ownsRow w.heap.size 3 1 u reps (numV W) ∧ Gr w w') := fun w h => by
    rw [hW]
    exact walkAt_any h h1 h2 h3 h4 K hK
  rw [← hW]
  have hg4 : Arr (w.alloc (.cells (u8s K).toArray 23)) w.heap.size 23 (u8s K) := Arr.newAt rfl rfl
  have G0 : Gr w (w.alloc (.cells (u8s K).toArray 23)) := Gr.alloc _ _
  have b1 : ¬ (n : Int) < 1 := by omega
  have b2 : (n : Int) ≤ (reps : Int) := by omega
  clear hW
  go_enter Tryd.func11, Tryd.ntmps11
  go_upto_region 1 with fail
  change Code.wp _ _ _ _ (w.alloc (.cells (u8s K).toArray 23))
  generalize w.alloc (.cells (u8s K).toArray 23) = w0 at hg4 G0 ⊢
  obtain ⟨g4, hg⟩ : ∃ g, g = w.heap.size := ⟨_, rfl⟩
  rw [← hg] at hg4
  simp only [← hg]
  clear hg
  have hR0 := h.gr G0
  obtain ⟨A, c, L, hA, _⟩ := hR0
  have c0 := hA.cell (i := 0) (v := .int .i64 (reps : Int)) rfl
  have HR0 := Lib.hid (h.gr G0)
  clear hA h
  go_wp2_with first
    | (refine wpList_load_mid rfl 23 (.tmp 4) rfl g4 0 rfl (u8s K) _ hg4.range Tryd.underlying23 rfl (by simp only [u8s_length, hK]; kernel_rfl) ?_)
  refine (HWk.out w0 HR0.out).mono ?_
  rintro e w1 ⟨u, rfl, ho, hG1⟩
  obtain ⟨A1, c1, rfl, hc1, _, hr1⟩ := own_form3 ho
  have hcut := fun w => run_cut_hm (P := Tryd.prog) (A := A1) (n := reps) (c := c1) (hi := n) (mx := n) (h := (n : Int)) (m := (n : Int)) Tryd.underlying30 (by kernel_rfl) rfl rfl (Nat.le_refl _) (by omega) w
  have hr2 := hr1.take hn2
  rw [numV_take] at hr2
  have hG2 := Gr.trans G0 hG1
  clear ho HWk HR0 c0
  go_wp2_with fail
  refine bodyPost_ret (results_tmp2 rfl _ _ _) rfl ?_
  exact ⟨A1, rfl, hr2, hG2⟩
set_option maxRecDepth 100000 in
set_option maxHeartbeats 4000000 in
theorem prefer_nil (K : List UInt8) (n : Int) (w : World) :
    Calls Tryd.prog 11 #[.pointer none, .agg (u8s K).toArray, .int .i64 n] w fun e w' => e = .returned (.tuple #[.slice none 0 0, .int .i64 1]) ∧ Gr w w' := by
  go_enter Tryd.func11, Tryd.ntmps11
  go_wp2_with fail
  refine bodyPost_ret (results_tmp2 rfl _ _ _) rfl ?_
  exact ⟨rfl, Gr.alloc _ _⟩
set_option maxRecDepth 100000 in
set_option maxHeartbeats 4000000 in
theorem prefer_no {w : World} {gR reps points : Nat} (h : RingAt w gR reps points) (K : List UInt8) (n : Int) (hn : n < 1 ∨ (reps : Int) < n) :
    Calls Tryd.prog 11 #[.pointer (some ⟨gR, 0, none⟩), .agg (u8s K).toArray, .int .i64 n] w fun e w' => e = .returned (.tuple #[.slice none 0 0, .int .i64 1]) ∧ Gr w w' := by
  obtain ⟨A, c, L, hA, _⟩ := h.gr (Gr.alloc w (.cells (u8s K).toArray 23))
  have c0 := hA.cell (i := 0) (v := .int .i64 (reps : Int)) rfl
  rcases Int.lt_or_le n 1 with h1 | h1
  · clear hn hA h c0
    go_enter Tryd.func11, Tryd.ntmps11
    go_wp2_with fail
    refine bodyPost_ret (results_tmp2 rfl _ _ _) rfl ?_
    exact ⟨rfl, Gr.alloc _ _⟩
  · have h2 : ¬ n < 1 := by omega
    have h3 : (reps : Int) < n := by omega
    clear hn hA h h1
    go_enter Tryd.func11, Tryd.ntmps11
    go_upto_region 1 with fail
    change Code.wp _ _ _ _ (w.alloc (.cells (u8s K).toArray 23))
    have G0 : Gr w (w.alloc (.cells (u8s K).toArray 23)) := Gr.alloc _ _
    generalize w.alloc (.cells (u8s K).toArray 23) = w0 at c0 G0 ⊢
    go_wp2_with fail
    refine bodyPost_ret (results_tmp2 rfl _ _ _) rfl ?_
    exact ⟨rfl, G0⟩
end Go.Proofs.YtmcnnjcbgbdeeaaDoor
