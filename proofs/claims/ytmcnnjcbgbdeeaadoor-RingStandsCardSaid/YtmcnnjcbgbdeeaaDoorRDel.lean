/- The walks of slices.Clone, IndexFunc and DeleteFunc over numbers, with the ring's question whether a replica is up. No condition. -/
import Derived.Test.YtmcnnjcbgbdeeaaDoorRPref
import Derived.Lib.SliceRun
import Derived.Test.YtmcnnjcbgbdeeaaDoorRemU
namespace Go.Proofs.YtmcnnjcbgbdeeaaDoor
open Go.RowKit
/-- append([]T{}, s...): a copy. -/
theorem wpList_clipV {P : Program} (w : World) {ops : Array Oper} {rest : List Oper} {o : Oper} {a : Act} {Q : Exit → Act → World → Prop} (hgd : o.guard = none) (s x : Operand) (t : TypeId)
    (ho : o.op = .call { callee := .builtin .append, args := #[s, x], argTypes := #[t, t] })
    (e : TypeId) (i : TypeInfo) (z : Value) (bytes : Nat) (ht : P.underlying t = some (.slice e)) (hi : P.info? e = some i) (hz : i.zero = some z)
    (hsize : i.size = 1) (hby : i.bytes = bytes) (hzs : z.cells.size = 1) (H : Nat) (hH : w.heap.size = H) (hs : a.eval s = .slice (some ⟨H, 0, none⟩) 0 0)
    (A : Option Addr) (m c : Nat) (l : List Value) (hx : a.eval x = .slice A m c) (hr : Rd w A m l) (h1 : ∀ u ∈ l, u.oneCell' = true) (hm : m ≤ 1000000000) (hb : m * bytes ≤ 140737488355328)
    (h : ∀ v' w', w'.ownsRow w.heap.size e 1 v' m l → Below w.heap.size w w' → wpList P ops Q rest (a.put o.dst v') w') : wpList P ops Q (o :: rest) a (w.alloc (.cells #[] e)) := by
  subst hH
  have hown0 : (w.alloc (.cells #[] e)).ownsRow w.heap.size e 1 (.slice (some ⟨w.heap.size, 0, none⟩) 0 0) 0 [] := World.ownsRow_lit w #[] 0 (Nat.le_refl _) (by simp [maxLen]) rfl
  refine wpList_app _ hgd s x t ho w.heap.size e i z bytes ht hi hz hsize hby hzs _ 0 [] hs hown0 A m c l hx (hr.alloc _) h1 (by rw [Nat.zero_add]; exact hb) (by simp only [maxLen]; omega) (by simp) fun v' w' hA => ?_
  refine h v' w' (by have := hA.own; simpa using this) ?_
  exact ((Below.refl w.heap.size w).alloc (Nat.le_refl _) _).trans (hA.below hown0 (by simp))
theorem numV_oneCell (l : List Nat) : ∀ u ∈ numV l, u.oneCell' = true := by
  intro u h
  obtain ⟨x, _, rfl⟩ := List.mem_map.1 h
  rfl
set_option maxRecDepth 100000 in
set_option maxHeartbeats 2000000 in
theorem cloneI_any (A : Option Addr) (n c : Nat) (l : List Nat) (hn : n ≤ 1000000) (w : World) (hr : Rd w A n (numV l)) (hA : A = none → n = 0 ∧ c = 0) :
    Calls Tryd.prog 27 #[.slice A n c] w fun e w' => ∃ v, e = .returned v ∧ w'.ownsRow w.heap.size 3 1 v n (numV l) ∧ Gr w w' := by
  obtain ⟨i0, hi0, hz0, hz1, hz2⟩ := info_parts (P := Tryd.prog) (e := 3) (z := .int .i64 0) (size := 1) (bytes := 8) (by kernel_rfl)
  cases A with
  | none =>
    obtain ⟨rfl, rfl⟩ := hA rfl
    have hl : l = [] := by have := hr.1; simpa [numV] using this
    subst hl
    have he : ∀ w : World, (binOp .eql 30 (.slice none 0 0) (.slice none 0 0)).run Tryd.prog w = .ok (.bool true) w := fun _ => rfl
    go_enter Tryd.func27, Tryd.ntmps27
    go_wp2_with fail
    go_ret
    exact ⟨_, rfl, World.ownsRow_nil _ _ _ _, Below.refl _ _⟩
  | some ad =>
    clear hA
    have he : ∀ w : World, (binOp .eql 30 (.slice (some ad) n c) (.slice none 0 0)).run Tryd.prog w = .ok (.bool false) w := fun _ => rfl
    go_enter Tryd.func27, Tryd.ntmps27
    go_wp2_with (at_builtin; go_must (refine wpList_clipV _ rfl (.tmp 5) (.tmp 6) 30 rfl 3 i0 (.int .i64 0) 8 Tryd.underlying30 hi0 hz0 hz1 hz2 rfl w.heap.size rfl rfl (some ad) n c (numV l) rfl hr (numV_oneCell _) (by omega) (by omega) ?_))
    intro v1 w1 ho1 hB1
    go_simp
    go_wp2_with fail
    go_ret
    exact ⟨_, rfl, ho1, hB1⟩
/-- The question of a replica: is it down? -/
def DelF (up : Nat → Bool) (m g7 B : Nat) (w : World) : Prop := ∀ w', Below B w w' → ∀ x : Nat, x < m → Calls Tryd.prog 28 #[.int .i64 (x : Int), .pointer (some ⟨g7, 0, none⟩)] w' fun e w'' => e = .returned (.bool (!up x)) ∧ w' = w''
theorem DelF.on {up : Nat → Bool} {m g7 B : Nat} {w w' : World} (h : DelF up m g7 B w) (hB : Below B w w') : DelF up m g7 B w' := fun w2 h2 => h w2 (hB.trans h2)
set_option maxRecDepth 100000 in
set_option maxHeartbeats 2000000 in
theorem stand1_any {w : World} {g7 : Nat} {U : Option Addr} {m c : Nat} {ups : List Bool} (hc : w.cell? ⟨g7, 0, none⟩ = some (.slice U m c)) (hr : Rd w U m (ups.map Value.bool)) {x : Nat} {b : Bool} (hx : ups[x]? = some b) :
    Calls Tryd.prog 28 #[.int .i64 (x : Int), .pointer (some ⟨g7, 0, none⟩)] w fun e w'' => e = .returned (.bool (!b)) ∧ w = w'' := by
  have hl : ups.length = m := by simpa using hr.1
  have hxm : x < m := by have := (List.getElem?_eq_some_iff.1 hx).1; omega
  obtain ⟨ad, rfl, hcx⟩ := hr.2 x (.bool b) (by rw [List.getElem?_map, hx]; rfl)
  have hxi : (x : Int) < (m : Int) := by omega
  clear hr hl
  go_enter Tryd.func28, Tryd.ntmps28
  go_wp2_with fail
  go_ret
  exact ⟨rfl, rfl⟩
/-- What IndexFunc tells. -/
def IdxQ (up : Nat → Bool) (l : List Nat) (w : World) (e : Ending) (w' : World) : Prop := ∃ r : Int, e = .returned (.int .i64 r) ∧ w = w' ∧ ((r = -1 ∧ ∀ x ∈ l, up x = true) ∨ ∃ i x : Nat, r = (i : Int) ∧ l[i]? = some x ∧ up x = false ∧ ∀ y ∈ l.take i, up y = true)
def IdxR (up : Nat → Bool) (l : List Nat) (n : Nat) (w : World) (i : Value) (wr : World) : Prop := ∃ k : Nat, k ≤ n ∧ i = .int .i64 (k : Int) ∧ (∀ y ∈ l.take k, up y = true) ∧ w = wr
set_option maxRecDepth 100000 in
set_option maxHeartbeats 4000000 in
theorem indexF_any {up : Nat → Bool} {m g7 B : Nat} {w : World} (hd : DelF up m g7 B w) {A : Option Addr} {n c : Nat} {l : List Nat} (hr : Rd w A n (numV l)) (hlm : ∀ x ∈ l, x < m) (hn : n ≤ 1000000) :
    Calls Tryd.prog 39 #[.slice A n c, .func (.func 28) #[] #[.pointer (some ⟨g7, 0, none⟩)]] w fun e w' => IdxQ up l w e w' := by
  have hl : l.length = n := by have := hr.1; rwa [numV_length] at this
  have HD := Lib.hid hd
  have HLM := Lib.hid hlm
  clear hd hlm
  go_enter Tryd.func39, Tryd.ntmps39
  go_wp2_with fail
  go_simp
  go_loopw [8] (fun i wr => IdxR up l n w i wr) (fun i _ => n - (intOf i).toNat)
  case atStart => exact ⟨0, Nat.zero_le _, rfl, by simp, rfl⟩
  case round =>
    obtain ⟨k, hk, rfl, hno, rfl⟩ := hrel
    by_cases hlt : k < n
    · have hki : (k : Int) < (n : Int) := by omega
      obtain ⟨ad, x, rfl, hxk, hcx⟩ := hr.num hlt
      have hP := HD.out w (Below.refl _ _) x (HLM.out x (List.mem_of_getElem? hxk))
      have HX := Lib.hid hxk
      have HNO := Lib.hid hno
      obtain ⟨b, hb⟩ : ∃ b, b = up x := ⟨_, rfl⟩
      rw [← hb] at hP
      have HB := Lib.hid hb
      clear hxk hno hb
      cases b with
      | true =>
        rw [Bool.not_true] at hP
        go_wp2_with fail
        refine hP.mono ?_
        rintro e _ ⟨rfl, rfl⟩
        go_wp2_with fail
        refine ⟨⟨k + 1, hlt, by go_num, fun y hy => ?_, rfl⟩, by simp [intOf]; omega⟩
        rw [List.take_add_one, HX.out] at hy
        rcases List.mem_append.1 hy with h | h
        · exact HNO.out y h
        · rw [show y = x by simpa using h]; exact HB.out.symm
      | false =>
        rw [Bool.not_false] at hP
        go_wp2_with fail
        refine hP.mono ?_
        rintro e _ ⟨rfl, rfl⟩
        go_wp2_with fail
        go_ret
        exact ⟨(k : Int), rfl, rfl, .inr ⟨k, x, rfl, HX.out, HB.out.symm, HNO.out⟩⟩
    · have hki : ¬ (k : Int) < (n : Int) := by omega
      rw [List.take_of_length_le (by omega)] at hno
      have HNO := Lib.hid hno
      clear hno
      go_wp2_with fail
      go_ret
      exact ⟨-1, rfl, rfl, .inl ⟨rfl, HNO.out⟩⟩
/-- Where DeleteFunc stands. -/
def DelR (up : Nat → Bool) (l : List Nat) (n c g B : Nat) (w : World) (iv jv : Value) (wr : World) : Prop := ∃ (i j : Nat) (CS : List Value), i < j ∧ j ≤ n ∧ iv = .int .i64 (i : Int) ∧ jv = .int .i64 (j : Int) ∧ CS.length = c ∧ Arr wr g 3 CS ∧ CS.take i = numV ((l.take j).filter up) ∧ (∀ q, j ≤ q → q < n → CS[q]? = (numV l)[q]?) ∧ Below B w wr
/-- What DeleteFunc leaves. -/
def DelQ (up : Nat → Bool) (l : List Nat) (B : Nat) (w : World) (e : Ending) (w' : World) : Prop := ∃ (A : Option Addr) (k c : Nat), e = .returned (.slice A k c) ∧ k ≤ c ∧ Rd w' A k (numV (l.filter up)) ∧ Below B w w'
set_option maxRecDepth 100000 in
set_option maxHeartbeats 8000000 in
theorem deleteF_any {up : Nat → Bool} {m g7 B : Nat} {w : World} (hd : DelF up m g7 B w) {A : Option Addr} {n c : Nat} {l : List Nat} (hr : w.ownsRow B 3 1 (.slice A n c) n (numV l)) (hlm : ∀ x ∈ l, x < m) (hn : n ≤ 1000000) :
    Calls Tryd.prog 26 #[.slice A n c, .func (.func 28) #[] #[.pointer (some ⟨g7, 0, none⟩)]] w fun e w' => DelQ up l B w e w' := by
  have hrd := Rd.of_own hr
  have hl : l.length = n := by have := hrd.1; rwa [numV_length] at this
  have HD := Lib.hid hd
  have HLM := Lib.hid hlm
  have HI := Lib.hid (indexF_any (c := c) hd hrd hlm hn)
  have hnc : n ≤ c := by
    obtain ⟨A', c', e, h, _⟩ := own_form3 hr
    injection e with _ _ e
    omega
  clear hd hlm
  go_enter Tryd.func26, Tryd.ntmps26
  go_wp2_with fail
  refine HI.out.mono ?_
  rintro e w1 ⟨r, rfl, rfl, ⟨rfl, hall⟩ | ⟨i0, x0, rfl, hx0, hux0, hup0⟩⟩
  · have hf : l.filter up = l := List.filter_eq_self.2 fun x hx => hall x hx
    have HF := Lib.hid hf
    clear hall hf
    go_wp2_with fail
    go_ret
    exact ⟨A, n, c, rfl, hnc, by rw [HF.out]; exact hrd, Below.refl _ _⟩
  · have hi0 : i0 < n := by have := (List.getElem?_eq_some_iff.1 hx0).1; omega
    obtain ⟨g, c', cs, e, hBg, _, hcs, hA, htk⟩ := own_arr hr (by omega)
    injection e with e1 _ e2
    subst e1 e2
    have hi1 : ¬ (i0 : Int) = -1 := by omega
    have hft : Hid (cs.take i0 = numV ((l.take (i0 + 1)).filter up)) := by
      show _ = _
      rw [List.take_add_one, hx0, List.filter_append, List.filter_eq_self.2 hup0]
      have h := congrArg (List.take i0) htk
      rw [List.take_take, Nat.min_eq_left (by omega), numV_take] at h
      simp [h, hux0]
    have hrs : Hid (∀ q, i0 + 1 ≤ q → q < n → cs[q]? = (numV l)[q]?) := by
      intro q _ h2
      rw [← htk, List.getElem?_take, if_pos h2]
    clear hx0 hux0 hup0 HI htk hrd hr
    go_wp2_with fail
    go_simp
    go_loopw [5, 6] (fun iv jv wr => DelR up l n c g B w iv jv wr) (fun _ j _ => n - (intOf j).toNat)
    case atStart => exact ⟨i0, i0 + 1, cs, by omega, by omega, rfl, by go_num, hcs, hA, hft.out, hrs.out, Below.refl _ _⟩
    case round =>
      obtain ⟨i, j, CS, hij, hjn, rfl, rfl, hCl, hAr, hTk, hRs, hBr⟩ := hrel
      by_cases hlt : j < n
      · have hji : (j : Int) < (n : Int) := by omega
        obtain ⟨x, hx⟩ : ∃ x, l[j]? = some x := ⟨l[j]'(by omega), List.getElem?_eq_getElem (by omega)⟩
        have hcj : wr.cell? ⟨g, j, none⟩ = some (.int .i64 (x : Int)) := hAr.cell (by rw [hRs j (Nat.le_refl _) hlt]; exact numV_at hx)
        obtain ⟨vi, hci⟩ : ∃ v, wr.cell? ⟨g, i, none⟩ = some v := ⟨_, hAr.cell (List.getElem?_eq_getElem (show i < CS.length by omega))⟩
        have hfi : wr.frozen? ⟨g, i, none⟩ = false := hAr.frozen i
        have hP := HD.out wr hBr x (HLM.out x (List.mem_of_getElem? hx))
        have hii : (i : Int) < (n : Int) := by omega
        have hfx : (l.take (j + 1)).filter up = (l.take j).filter up ++ if up x then [x] else [] := by
          rw [List.take_add_one, hx, List.filter_append]
          simp [List.filter_cons]
        obtain ⟨b, hb⟩ : ∃ b, b = up x := ⟨_, rfl⟩
        rw [← hb] at hP hfx
        have HFX := Lib.hid hfx
        have HTK := Lib.hid hTk
        have HRS := Lib.hid hRs
        have HCL := Lib.hid hCl
        clear hb hfx hTk hRs hx hCl
        cases b with
        | true =>
          rw [Bool.not_true] at hP
          have hA2 := hAr.set i (.int .i64 (x : Int))
          have hB2 := hBr.trans (below_setCell (w := wr) (a := ⟨g, i, none⟩) (v := .int .i64 (x : Int)) hBg)
          have hT2 : Hid ((CS.set i (.int .i64 (x : Int))).take (i + 1) = numV ((l.take (j + 1)).filter up)) := by
            show _ = _
            rw [HFX.out, if_pos rfl, List.take_add_one, List.take_set, List.set_eq_of_length_le (by simp; omega), HTK.out, List.getElem?_set_self (by have := HCL.out; omega)]
            simp [numV]
          have hR2 : Hid (∀ q, j + 1 ≤ q → q < n → (CS.set i (.int .i64 (x : Int)))[q]? = (numV l)[q]?) := fun q h1 h2 => by
            rw [List.getElem?_set_ne (by omega)]
            exact HRS.out q (by omega) h2
          go_wp2_with fail
          refine hP.mono ?_
          rintro e _ ⟨rfl, rfl⟩
          go_wp2_with fail
          exact ⟨⟨i + 1, j + 1, _, by omega, hlt, by go_num, by go_num, by rw [List.length_set]; exact HCL.out, hA2, hT2.out, hR2.out, hB2⟩, by simp [intOf]; omega⟩
        | false =>
          rw [Bool.not_false] at hP
          go_wp2_with fail
          refine hP.mono ?_
          rintro e _ ⟨rfl, rfl⟩
          go_wp2_with fail
          exact ⟨⟨i, j + 1, CS, by omega, hlt, rfl, by go_num, HCL.out, hAr, by rw [HTK.out, HFX.out]; simp, fun q h1 h2 => HRS.out q (by omega) h2, hBr⟩, by simp [intOf]; omega⟩
      · have hji : ¬ (j : Int) < (n : Int) := by omega
        have hje : j = n := by omega
        subst hje
        have hcl : ∀ w, (Instr.sliceAt 30 (.slice (some ⟨g, 0, none⟩) j c) (some (.int .i64 (i : Int))) none none).run Tryd.prog w = .ok (.slice (some ⟨g, i, none⟩) (j - i) (c - i)) w := fun w => by
          rw [run_cut_l (P := Tryd.prog) Tryd.underlying30 (by kernel_rfl) rfl (by omega) w]
          unfold cutA
          rw [if_neg (by omega)]
          simp [add_row]
        have hch : ∀ w, (Instr.sliceAt 30 (.slice (some ⟨g, 0, none⟩) j c) none (some (.int .i64 (i : Int))) none).run Tryd.prog w = .ok (.slice (some ⟨g, 0, none⟩) i c) w := fun w => run_cut_h (P := Tryd.prog) Tryd.underlying30 (by kernel_rfl) rfl (by omega) w
        rw [show l.take j = l from List.take_of_length_le (by omega)] at hTk
        have HTK := Lib.hid hTk
        clear hTk hRs HD HLM
        have hclr := Lib.run_clear_slice (P := Tryd.prog) wr 30 3 0 (.int .i64 0) Tryd.underlying30 (fun w => by kernel_rfl) rfl rfl g i (j - i) (c - i) (by omega) (fun q hq => by rw [hAr.cell (List.getElem?_eq_getElem (show i + q < CS.length by omega))]; rfl) (fun q _ => hAr.frozen _)
        have hA2 := Arr.setCells_from (List.replicate (j - i) (.int .i64 0)) i wr CS hAr (by rw [List.length_replicate]; omega)
        have hB2 : Below g wr (wr.setCells g i (List.replicate (j - i) (.int .i64 0))) := below_setCells (Nat.le_refl _) _ _ _
        generalize wr.setCells g i (List.replicate (j - i) (.int .i64 0)) = w2 at hclr hA2 hB2
        have hR2 : Rd w2 (some ⟨g, 0, none⟩) i (numV (l.filter up)) := by
          refine hA2.rdTake (by simp; omega) ?_
          rw [List.append_assoc, List.take_append_of_le_length (by simp; omega), List.take_take, Nat.min_self]
          exact HTK.out
        have hB3 : Below B w w2 := hBr.trans (hB2.mono hBg)
        clear hA2 hB2 hAr hBr HTK
        go_wp2_with fail
        go_ret
        exact ⟨_, i, c, rfl, by omega, hR2, hB3⟩
end Go.Proofs.YtmcnnjcbgbdeeaaDoor
