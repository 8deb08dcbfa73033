/- The walk of slices.CompactFunc at siblings. No condition. -/
import Derived.Test.YteckblffpidigaaGreatDoorMtComp
namespace Go.Proofs.YteckblffpidigaaGreatDoor
open Go.Shelf Go.RowKit Go.Lib Go.Sort
def CompQ (L : List SibU) (enc : SibU → List Value) (k g n c : Nat) (rest : List Value) (w : World) (e : Ending) (w' : World) : Prop := ∃ (m : Nat) (rest' : List Value), e = .returned (.slice (some ⟨g, 0, none⟩) m c) ∧ m = (keepN L n).length ∧ Arr w' g 44 ((keepN L n).flatMap enc ++ rest') ∧ rest'.length + m * k = rest.length + n * k ∧ Kx g w.heap.size w w'
def CompA (L : List SibU) (enc : SibU → List Value) (g n : Nat) (rest : List Value) (w : World) (v : Value) (wr : World) : Prop := ∃ i : Nat, v = .int .i64 (i : Int) ∧ 1 ≤ i ∧ i ≤ n ∧ keepN L i = L.take i ∧ Arr wr g 44 (L.flatMap enc ++ rest) ∧ Kx g w.heap.size w wr
def CompB (L : List SibU) (enc : SibU → List Value) (q g n : Nat) (rest : List Value) (w : World) (v5 v7 : Value) (wr : World) : Prop := ∃ (j k2 : Nat) (M : List SibU), v5 = .int .i64 (j : Int) ∧ v7 = .int .i64 (k2 : Int) ∧ 1 ≤ k2 ∧ q + 1 + k2 ≤ n ∧ j = (keepN L (q + 1 + k2)).length ∧ j ≤ q + k2 ∧ M.length = n ∧ M.take j = keepN L (q + 1 + k2) ∧ (∀ t, q + k2 ≤ t → M[t]? = L[t]?) ∧ Arr wr g 44 (M.flatMap enc ++ rest) ∧ Kx g w.heap.size w wr
theorem Kx.cells (g B o : Nat) (C : List Value) (w : World) : Kx g B w (w.setCells g o C) := by
  have hb := below_setCells (B := g) (g := g) (Nat.le_refl _) C w o
  refine ⟨hb.os, hb.tape, hb.output, hb.size, fun k _ hne => ?_⟩
  by_cases hk : k < w.heap.size
  · exact World.heap_setCells_other w g o C hk hne
  · have hs : (w.setCells g o C).heap.size = w.heap.size := by simp
    rw [Array.getElem?_eq_none (by omega), Array.getElem?_eq_none (by omega)]
theorem set_take {M : List SibU} {j : Nat} {x : SibU} (h : j < M.length) : (M.set j x).take (j + 1) = M.take j ++ [x] := by
  rw [List.take_add_one, List.getElem?_set_self h, List.take_set_of_le (Nat.le_refl _)]
  rfl
theorem take_flat {enc : SibU → List Value} {k : Nat} (hk : ∀ x, (enc x).length = k) : ∀ (M : List SibU) (j : Nat), (M.flatMap enc).take (j * k) = (M.take j).flatMap enc := by
  intro M
  induction M with
  | nil => intro j; simp
  | cons a M ih =>
    intro j
    cases j with
    | zero => simp
    | succ j =>
      rw [List.flatMap_cons, List.take_succ_cons, List.flatMap_cons, ← ih j, Nat.add_mul, Nat.one_mul, List.take_append, hk, List.take_of_length_le (by rw [hk]; omega)]
      congr 2
      omega
theorem arr_clear {enc : SibU → List Value} {k : Nat} (hk : ∀ x, (enc x).length = k) {w : World} {g j : Nat} {t : TypeId} {M : List SibU} {rest ZZ : List Value} (h : Arr w g t (M.flatMap enc ++ rest)) (hj : j ≤ M.length) (hZ : ZZ.length = (M.length - j) * k) : Arr (w.setCells g (j * k) ZZ) g t ((M.take j).flatMap enc ++ (ZZ ++ rest)) := by
  have hl := flat_len hk M
  have hs : j * k + (M.length - j) * k = M.length * k := by rw [← Nat.add_mul]; congr 1; omega
  have h1 := Arr.setCells_from ZZ (j * k) w _ h (by rw [List.length_append, hl, hZ]; omega)
  rw [hZ, hs, List.take_append_of_le_length (by omega), take_flat hk, List.drop_append, hl, List.drop_of_length_le (by omega), List.nil_append, Nat.sub_self, List.drop_zero, List.append_assoc] at h1
  exact h1
theorem at_bang {M : List SibU} {i : Nat} {x : SibU} (h : M[i]? = some x) : M.toArray[i]! = x := by
  rw [getElem!_def, List.getElem?_toArray, h]
theorem keepN_one {L : List SibU} (h : 1 ≤ L.length) : keepN L 1 = L.take 1 := by
  unfold keepN
  obtain ⟨x, hx⟩ : ∃ x, L[0]? = some x := ⟨_, List.getElem?_eq_getElem (by omega)⟩
  rw [hx]
  simp only [ne_eq, not_true_eq_false, false_and, if_false]
  unfold keepN
  cases L with
  | nil => simp at h
  | cons a L => simp at hx; simp [hx]
theorem keepN_go {L : List SibU} {i : Nat} {x y : SibU} (h : keepN L i = L.take i) (hx : L[i]? = some x) (hy : L[i - 1]? = some y) (hne : y.1.d ≠ x.1.d) : keepN L (i + 1) = L.take (i + 1) := by
  unfold keepN
  rw [hx]
  simp only
  rw [if_neg, h, List.take_add_one, hx]
  · rfl
  · rintro ⟨_, h2⟩
    rw [hy] at h2
    exact hne (Option.some.inj h2)
theorem keepN_dup {L : List SibU} {i : Nat} {x y : SibU} (hi : i ≠ 0) (hx : L[i]? = some x) (hy : L[i - 1]? = some y) (he : y.1.d = x.1.d) : keepN L (i + 1) = keepN L i := by
  conv => lhs; unfold keepN
  rw [hx]
  simp only
  rw [if_pos ⟨hi, by rw [hy, Option.map_some, he]⟩]
theorem keepN_add {L : List SibU} {i : Nat} {x y : SibU} (hx : L[i]? = some x) (hy : L[i - 1]? = some y) (hne : y.1.d ≠ x.1.d) : keepN L (i + 1) = keepN L i ++ [x] := by
  conv => lhs; unfold keepN
  rw [hx]
  simp only
  rw [if_neg]
  rintro ⟨_, h2⟩
  rw [hy] at h2
  exact hne (Option.some.inj h2)
theorem keepN_le {L : List SibU} : ∀ i, (keepN L i).length ≤ i := by
  intro i
  induction i with
  | zero => exact Nat.le_refl _
  | succ i ih =>
    unfold keepN
    cases L[i]? with
    | none => exact Nat.le_succ_of_le ih
    | some x =>
      simp only
      split
      · exact Nat.le_succ_of_le ih
      · rw [List.length_append]
        simp only [List.length_singleton]
        omega
set_option maxRecDepth 1000000 in
set_option maxHeartbeats 8000000 in
theorem compact_any (k : Nat) (hk0 : 0 < k) (zE : ∀ w, (Go.sizeOf 44).run Tryz.prog w = .ok k w) (enc : SibU → List Value) (hk : ∀ x, (enc x).length = k) (hone : ∀ x, ∀ v ∈ enc x, v.oneCell' = true)
    (heq : ∀ x y w, Calls Tryz.prog 29 #[.agg (enc x).toArray, .agg (enc y).toArray] w fun e w' => e = .returned (.bool (decide (x.1.d = y.1.d))) ∧ GG w w')
    (z : Value) (hz : ∀ w, (zeroValue 44).run Tryz.prog w = .ok z w) (hzk : z.cells.size = k) (hz1 : ∀ v ∈ z.cells.toList, v.oneCell' = true)
    {L : List SibU} {g n c : Nat} {rest : List Value} {w : World} (hA : Arr w g 44 (L.flatMap enc ++ rest)) (hl : L.length = n) (hnc : n ≤ c) (hn : n ≤ 1000000) :
    Calls Tryz.prog 28 #[.slice (some ⟨g, 0, none⟩) n c, .func (.func 29) #[] #[]] w fun e w' => CompQ L enc k g n c rest w e w' := by
  have mixed : Tryz.prog.follows .mixedOrders = true := by kernel_rfl
  have aE := Tryz.isAgg44
  have tS := Tryz.underlying23
  have aS := Tryz.isAgg23
  have zS := Tryz.sizeOf23
  have HEQ := Lib.hid heq
  have HZ := Lib.hid hz
  have HZk := Lib.hid hzk
  have HLen := Lib.hid hl
  have HA := Lib.hid hA
  clear heq hz hzk hl hA
  have hnz : (n : Int) ≤ 1000000 := by omega
  go_enter Tryz.func28, Tryz.ntmps28
  by_cases h2 : n < 2
  · have h2z : (n : Int) < 2 := by omega
    have HK : Hid (keepN L n = L) := Lib.hid (by
      rcases Nat.lt_or_ge n 1 with h | h
      · have : n = 0 := by omega
        subst this
        exact (List.eq_nil_of_length_eq_zero HLen.out).symm
      · have : n = 1 := by omega
        subst this
        rw [keepN_one (by rw [HLen.out]; exact Nat.le_refl _), List.take_of_length_le (by rw [HLen.out]; exact Nat.le_refl _)])
    clear h2
    go_wp2_with fail
    go_ret
    exact ⟨n, rest, rfl, by rw [HK.out, HLen.out], by rw [HK.out]; exact HA.out, rfl, Kx.refl _ _ _⟩
  · have h2z : ¬ (n : Int) < 2 := by omega
    have HK1 : Hid (keepN L 1 = L.take 1) := Lib.hid (keepN_one (by rw [HLen.out]; omega))
    clear h2
    go_wp2_with fail
    go_simp
    go_loopw [5] (fun v wr => CompA L enc g n rest w v wr) (fun v _ => n - (intOf v).toNat)
    case atStart => exact ⟨1, rfl, Nat.le_refl _, by omega, HK1.out, HA.out, Kx.refl _ _ _⟩
    case round =>
      obtain ⟨i, rfl, hi1, hin, hKi, hAr, hKx⟩ := hrel
      have HKi := Lib.hid hKi
      have HAr := Lib.hid hAr
      clear hKi hAr
      by_cases hlt : i < n
      · have hlz : (i : Int) < (n : Int) := by omega
        obtain ⟨q, rfl⟩ : ∃ q, i = q + 1 := ⟨i - 1, by omega⟩
        obtain ⟨x, hx⟩ : ∃ x, L[q + 1]? = some x := ⟨_, List.getElem?_eq_getElem (by rw [HLen.out]; exact hlt)⟩
        obtain ⟨y, hy⟩ : ∃ y, L[q]? = some y := ⟨_, List.getElem?_eq_getElem (by rw [HLen.out]; omega)⟩
        have HX := Lib.hid hx
        have HY : Hid (L[q + 1 - 1]? = some y) := Lib.hid hy
        have hln := HLen.out
        have S1 : Aside (SWK enc k wr g 0 L.toArray wr) := SWK.start (holds_arr (d := L.toArray) hk hk0 HAr.out)
        have RK : RowK enc k wr g 0 L.toArray := ⟨hk, hone, holds_arr (d := L.toArray) hk hk0 HAr.out, HAr.out.lt⟩
        have qz1 : (q : Int) + 1 < (n : Int) := by omega
        have qz2 : (q : Int) < (n : Int) := by omega
        have eA : ((q : Int) + 1).toNat = q + 1 := by omega
        have pA : (0 : Int) ≤ (q : Int) + 1 := by omega
        have rA : IntKind.i64.wrap ((q : Int) + 1) = (q : Int) + 1 := by rw [IntKind.wrap_i64]; omega
        have rB : IntKind.i64.wrap (q : Int) = (q : Int) := by rw [IntKind.wrap_i64]; omega
        have lA := S1.out.ld RK rfl Tryz.prog (q + 1) (by rw [List.size_toArray]; omega)
        have lB := S1.out.ld RK rfl Tryz.prog q (by rw [List.size_toArray]; omega)
        rw [at_bang hx] at lA
        rw [at_bang hy] at lB
        rw [Nat.zero_add] at lA lB
        have hc := fun n' os' => HEQ.out x y (Go.Sort.grow (wr.drewN n') os')
        have HAg : Hid (∀ n' os', Arr (Go.Sort.grow (wr.drewN n') os') g 44 (L.flatMap enc ++ rest)) := Lib.hid (fun n' os' => HAr.out.gr (GG.gr ⟨n', os', rfl⟩))
        have HKg : Hid (∀ n' os', Kx g w.heap.size w (Go.Sort.grow (wr.drewN n') os')) := Lib.hid (fun n' os' => hKx.trans (Kx.of_gr hKx.size (GG.gr ⟨n', os', rfl⟩)))
        by_cases hd : x.1.d = y.1.d
        · have hdd : decide (x.1.d = y.1.d) = true := decide_eq_true hd
          rw [hdd] at hc
          have HD := Lib.hid hd
          clear hx hy hln S1 RK hdd hd hKx
          go_upto_region 6 with fail
          go_quiet_grown (first | (go_at_call 29; refine Calls.grown_of (hc _ _)) | (go_at_fn 29; refine Calls.grown_of (hc _ _)) | (refine Calls.grown_of (hc _ _)))
          have hAg := HAg.out nq osq
          have hKg := HKg.out nq osq
          clear lA lB hc HAg HKg
          generalize Go.Sort.grow (wr.drewN nq) osq = wv at hAg hKg ⊢
          clear nq osq
          have HAv := Lib.hid hAg
          have HKv := Lib.hid hKg
          have HKD : Hid (keepN L (q + 1 + 1) = L.take (q + 1)) := Lib.hid ((keepN_dup (by omega) HX.out HY.out HD.out.symm).trans HKi.out)
          clear hAg hKg HAr HKi HX HY HD
          have hcz : (q : Int) + 1 ≤ (c : Int) := by omega
          have hcz2 : (n : Int) ≤ (c : Int) := by omega
          go_wp2_with fail
          go_simp
          obtain ⟨r, hr⟩ : ∃ r, r = n - (q + 1) := ⟨_, rfl⟩
          obtain ⟨rc, hrc⟩ : ∃ r, r = c - (q + 1) := ⟨_, rfl⟩
          have HRN : Hid (n = q + 1 + r) := by show _ = _; omega
          have hrcr : r ≤ rc := by omega
          rw [← hr, ← hrc]
          clear hr hrc
          go_loopw [5, 7] (fun v x wr => CompB L enc q g n rest w v x wr) (fun _ x _ => n - (intOf x).toNat)
          case atStart => exact ⟨q + 1, 1, L, by go_num, rfl, Nat.le_refl _, by omega, by rw [HKD.out, List.length_take, HLen.out]; omega, Nat.le_refl _, HLen.out, HKD.out.symm, fun _ _ => rfl, HAv.out, HKv.out⟩
          case round =>
            obtain ⟨j, k2, M, rfl, rfl, hk1, hkn, hj, hjq, hM, hT, hS, hAr, hKx⟩ := hrel
            have HJ := Lib.hid hj
            have HT := Lib.hid hT
            have HSm := Lib.hid hS
            have HAr := Lib.hid hAr
            have HMl := Lib.hid hM
            clear hj hT hS hAr hM
            by_cases hlt2 : k2 < r
            · have hlz2 : (k2 : Int) < (r : Int) := by omega
              obtain ⟨p, rfl⟩ : ∃ p, k2 = p + 1 := ⟨k2 - 1, by omega⟩
              have hnr := HRN.out
              obtain ⟨x2, hx2⟩ : ∃ x, L[q + 1 + (p + 1)]? = some x := ⟨_, List.getElem?_eq_getElem (by rw [HLen.out]; omega)⟩
              obtain ⟨y2, hy2⟩ : ∃ y, L[q + 1 + p]? = some y := ⟨_, List.getElem?_eq_getElem (by rw [HLen.out]; omega)⟩
              have hmx : M[q + 1 + (p + 1)]? = some x2 := (HSm.out _ (by omega)).trans hx2
              have hmy : M[q + 1 + p]? = some y2 := (HSm.out _ (by omega)).trans hy2
              have HX2 := Lib.hid hx2
              have HY2 : Hid (L[q + 1 + (p + 1) - 1]? = some y2) := Lib.hid hy2
              have hml := HMl.out
              have S1 : Aside (SWK enc k wr g 0 M.toArray wr) := SWK.start (holds_arr (d := M.toArray) hk hk0 HAr.out)
              have RK : RowK enc k wr g 0 M.toArray := ⟨hk, hone, holds_arr (d := M.toArray) hk hk0 HAr.out, HAr.out.lt⟩
              have lA := S1.out.ld RK rfl Tryz.prog (q + 1 + (p + 1)) (by rw [List.size_toArray]; omega)
              have lB := S1.out.ld RK rfl Tryz.prog (q + 1 + p) (by rw [List.size_toArray]; omega)
              rw [at_bang hmx] at lA
              rw [at_bang hmy] at lB
              rw [Nat.zero_add, Nat.add_mul (q + 1)] at lA lB
              have hc := fun n' os' => HEQ.out x2 y2 (Go.Sort.grow (wr.drewN n') os')
              have HAg : Hid (∀ n' os', Arr (Go.Sort.grow (wr.drewN n') os') g 44 (M.flatMap enc ++ rest)) := Lib.hid (fun n' os' => HAr.out.gr (GG.gr ⟨n', os', rfl⟩))
              have HKg : Hid (∀ n' os', Kx g w.heap.size w (Go.Sort.grow (wr.drewN n') os')) := Lib.hid (fun n' os' => hKx.trans (Kx.of_gr hKx.size (GG.gr ⟨n', os', rfl⟩)))
              have pz1 : (p : Int) + 1 < (r : Int) := by omega
              have pz2 : (p : Int) < (r : Int) := by omega
              have eA2 : ((p : Int) + 1).toNat = p + 1 := by omega
              have pA2 : (0 : Int) ≤ (p : Int) + 1 := by omega
              have rA2 : IntKind.i64.wrap ((p : Int) + 1) = (p : Int) + 1 := by rw [IntKind.wrap_i64]; omega
              have rB2 : IntKind.i64.wrap (p : Int) = (p : Int) := by rw [IntKind.wrap_i64]; omega
              by_cases hd2 : x2.1.d = y2.1.d
              · have hdd : decide (x2.1.d = y2.1.d) = true := decide_eq_true hd2
                rw [hdd] at hc
                have HD2 := Lib.hid hd2
                have HKe : Hid (keepN L (q + 1 + (p + 1) + 1) = keepN L (q + 1 + (p + 1))) := Lib.hid (keepN_dup (by omega) hx2 HY2.out hd2.symm)
                clear hx2 hy2 hmx hmy hml S1 RK hdd hd2 hKx hnr
                go_upto_region 11 with fail
                go_quiet_grown (first | (go_at_call 29; refine Calls.grown_of (hc _ _)))
                have hAg := HAg.out nq osq
                have hKg := HKg.out nq osq
                clear lA lB hc HAg HKg
                generalize Go.Sort.grow (wr.drewN nq) osq = wv at hAg hKg ⊢
                clear nq osq
                go_wp2_with fail
                exact ⟨⟨j, p + 1 + 1, M, rfl, by go_num, by omega, by have := HRN.out; omega, HJ.out.trans (congrArg List.length HKe.out.symm), by omega, HMl.out, HT.out.trans HKe.out.symm, fun t ht => HSm.out t (by omega), hAg, hKg⟩, by have := HRN.out; simp [intOf]; omega⟩
              · have hdd : decide (x2.1.d = y2.1.d) = false := decide_eq_false hd2
                rw [hdd] at hc
                have HKe : Hid (keepN L (q + 1 + (p + 1 + 1)) = keepN L (q + 1 + (p + 1)) ++ [x2]) := Lib.hid (keepN_add hx2 HY2.out (fun e => hd2 e.symm))
                have hjn : j < n := by omega
                have hjz : (j : Int) < (n : Int) := by omega
                clear hx2 hy2 hmy hml S1 RK hdd hd2 hKx hnr
                have HMX := Lib.hid hmx
                clear hmx
                go_upto_region 11 with fail
                go_quiet_grown (first | (go_at_call 29; refine Calls.grown_of (hc _ _)))
                have hAg := HAg.out nq osq
                have hKg := HKg.out nq osq
                clear lA lB hc HAg HKg
                generalize Go.Sort.grow (wr.drewN nq) osq = wv at hAg hKg ⊢
                clear nq osq
                have hH := holds_arr (d := M.toArray) hk hk0 hAg
                have lD := (SWK.start hH : SWK enc k wv g 0 M.toArray wv).load ⟨hk, hone, hH, hAg.lt⟩ rfl Tryz.prog (q + 1 + (p + 1)) (by have := HRN.out; have := HMl.out; rw [List.size_toArray]; omega)
                rw [at_bang HMX.out, Nat.zero_add, Nat.add_mul (q + 1)] at lD
                have sD := stores_of_holds Tryz.prog hH (j * k) (enc x2) (by have := HMl.out; rw [Go.Sort.size_flatK, List.size_toArray, hk]; have := Nat.mul_le_mul_right k (show j + 1 ≤ M.length by omega); rwa [Nat.add_mul, Nat.one_mul] at this) (hone x2)
                rw [Nat.zero_add] at sD
                have nD := hk x2
                have HAn : Hid (Arr (wv.setCells g (j * k) (enc x2)) g 44 ((M.set j x2).flatMap enc ++ rest)) := Lib.hid (arr_set hk hAg (by rw [HMl.out]; exact hjn))
                have HKn : Hid (Kx g w.heap.size w (wv.setCells g (j * k) (enc x2))) := Lib.hid (hKg.trans (Kx.cells _ _ _ _ _))
                generalize enc x2 = cx at lD sD nD HAn HKn
                clear hH hAg hKg
                go_wp2_with fail
                exact ⟨⟨j + 1, p + 1 + 1, M.set j x2, by go_num, by go_num, by omega, by have := HRN.out; omega, by rw [HKe.out, List.length_append, ← HJ.out]; rfl, by omega, by rw [List.length_set]; exact HMl.out, by rw [set_take (by rw [HMl.out]; exact hjn), HT.out, HKe.out], fun t ht => (List.getElem?_set_ne (by omega)).trans (HSm.out t (by omega)), HAn.out, HKn.out⟩, by have := HRN.out; simp [intOf]; omega⟩
            · have hlz2 : ¬ (k2 : Int) < (r : Int) := by omega
              have hnr := HRN.out
              have hke : q + 1 + k2 = n := by omega
              rw [hke] at HT HJ
              have hjn : j < n := by omega
              have hjz : (j : Int) ≤ (n : Int) := by omega
              have hjc : (j : Int) ≤ (c : Int) := by omega
              have HMl2 := HMl.out
              obtain ⟨ZZ, hZZ⟩ : ∃ Z, Z = (Builtin.zeroCells z.cells (n - j)).toList := ⟨_, rfl⟩
              have hZl : ZZ.length = (M.length - j) * k := by rw [hZZ, zeroCells_length, HZk.out, HMl2]
              have hcl : ∀ ty, (Builtin.clear_ #[23] ty #[.slice (some ⟨g, j * k, none⟩) (n - j) (c - j)]).run Tryz.prog wr = .ok (.tuple #[]) (wr.setCells g (j * k) ZZ) := fun ty => by
                rw [hZZ]
                refine run_clearK tS HZ.out hz1 (by omega) HAr.out ?_ (by rw [HZk.out]; exact hk0)
                rw [HZk.out, List.length_append, flat_len hk, HMl2]
                have : j * k + (n - j) * k = n * k := by rw [← Nat.add_mul]; congr 1; omega
                omega
              have HAn := Lib.hid (arr_clear hk HAr.out (by omega : j ≤ M.length) hZl)
              have HKn := Lib.hid (hKx.trans (Kx.cells g w.heap.size (j * k) ZZ wr))
              have HZl := Lib.hid hZl
              clear hZZ hZl hke hnr HMl2 hKx
              go_wp2_with fail
              go_ret
              exact ⟨j, ZZ ++ rest, rfl, HJ.out, by rw [← HT.out]; exact HAn.out, by
                have h1 := HZl.out
                rw [HMl.out] at h1
                have : (n - j) * k + j * k = n * k := by rw [← Nat.add_mul]; congr 1; omega
                rw [List.length_append, h1]
                omega, HKn.out⟩
        · have hdd : decide (x.1.d = y.1.d) = false := decide_eq_false hd
          rw [hdd] at hc
          have HD := Lib.hid hd
          clear hx hy hln S1 RK hdd hd hKx
          go_upto_region 6 with fail
          go_quiet_grown (first | (go_at_call 29; refine Calls.grown_of (hc _ _)) | (go_at_fn 29; refine Calls.grown_of (hc _ _)) | (refine Calls.grown_of (hc _ _)))
          have hAg := HAg.out nq osq
          have hKg := HKg.out nq osq
          clear lA lB hc HAg HKg
          generalize Go.Sort.grow (wr.drewN nq) osq = wv at hAg hKg ⊢
          clear nq osq
          go_wp2_with fail
          exact ⟨⟨q + 1 + 1, by go_num, by omega, hlt, keepN_go HKi.out HX.out HY.out (fun e => HD.out e.symm), hAg, hKg⟩, by simp [intOf]; omega⟩
      · have hlz : ¬ (i : Int) < (n : Int) := by omega
        have hie : i = n := by omega
        have HK : Hid (keepN L n = L) := Lib.hid (by rw [← hie, HKi.out, List.take_of_length_le (by rw [HLen.out]; omega)])
        clear hie
        go_wp2_with fail
        go_ret
        exact ⟨n, rest, rfl, by rw [HK.out, HLen.out], by rw [HK.out]; exact HAr.out, rfl, hKx⟩
end Go.Proofs.YteckblffpidigaaGreatDoor
