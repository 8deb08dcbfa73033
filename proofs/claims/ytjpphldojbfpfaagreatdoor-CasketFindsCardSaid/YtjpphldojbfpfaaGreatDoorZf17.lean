/- Texts of one proof, laid as one: part 17. No condition. -/
import Derived.Shelf.SlSortCmp.NoneTotal
import Derived.Test.YtjpphldojbfpfaaGreatDoorZf02
import Derived.Test.YtjpphldojbfpfaaGreatDoorZf15
namespace Go.Proofs.YtjpphldojbfpfaaGreatDoor
open Go.Shelf Go.RowKit Go.Lib Go.Sort
def CompQ (L : List SibU) (enc : SibU → List Value) (k g n c : Nat) (rest : List Value) (w : World) (e : Ending) (w' : World) : Prop := ∃ (m : Nat) (rest' : List Value), e = .returned (.slice (some ⟨g, 0, none⟩) m c) ∧ m = (keepN L n).length ∧ Arr w' g 45 ((keepN L n).flatMap enc ++ rest') ∧ rest'.length + m * k = rest.length + n * k ∧ Kx g w.heap.size w w'
def CompA (L : List SibU) (enc : SibU → List Value) (g n : Nat) (rest : List Value) (w : World) (v : Value) (wr : World) : Prop := ∃ i : Nat, v = .int .i64 (i : Int) ∧ 1 ≤ i ∧ i ≤ n ∧ keepN L i = L.take i ∧ Arr wr g 45 (L.flatMap enc ++ rest) ∧ Kx g w.heap.size w wr
def CompB (L : List SibU) (enc : SibU → List Value) (q g n : Nat) (rest : List Value) (w : World) (v5 v7 : Value) (wr : World) : Prop := ∃ (j k2 : Nat) (M : List SibU), v5 = .int .i64 (j : Int) ∧ v7 = .int .i64 (k2 : Int) ∧ 1 ≤ k2 ∧ q + 1 + k2 ≤ n ∧ j = (keepN L (q + 1 + k2)).length ∧ j ≤ q + k2 ∧ M.length = n ∧ M.take j = keepN L (q + 1 + k2) ∧ (∀ t, q + k2 ≤ t → M[t]? = L[t]?) ∧ Arr wr g 45 (M.flatMap enc ++ rest) ∧ Kx g w.heap.size w wr
theorem Kx.cells (g B o : Nat) (C : List Value) (w : World) : Kx g B w (w.setCells g o C) := by
  have hb := below_setCells (B := g) (g := g) (Nat.le_refl _) C w o; refine ⟨hb.os, hb.tape, hb.output, hb.size, fun k _ hne => ?_⟩
  by_cases hk : k < w.heap.size
  · exact World.heap_setCells_other w g o C hk hne
  · have hs : (w.setCells g o C).heap.size = w.heap.size := by simp
    rw [Array.getElem?_eq_none (by omega), Array.getElem?_eq_none (by omega)]
theorem set_take {M : List SibU} {j : Nat} {x : SibU} (h : j < M.length) : (M.set j x).take (j + 1) = M.take j ++ [x] := by
  rw [List.take_add_one, List.getElem?_set_self h, List.take_set_of_le (Nat.le_refl _)]; rfl
theorem take_flat {enc : SibU → List Value} {k : Nat} (hk : ∀ x, (enc x).length = k) : ∀ (M : List SibU) (j : Nat), (M.flatMap enc).take (j * k) = (M.take j).flatMap enc := by
  intro M
  induction M with
  | nil => intro j; simp
  | cons a M ih =>
    intro j; cases j with
    | zero => simp
    | succ j =>
      rw [List.flatMap_cons, List.take_succ_cons, List.flatMap_cons, ← ih j, Nat.add_mul, Nat.one_mul, List.take_append, hk, List.take_of_length_le (by rw [hk]; omega)]; congr 2
      omega
theorem arr_clear {enc : SibU → List Value} {k : Nat} (hk : ∀ x, (enc x).length = k) {w : World} {g j : Nat} {t : TypeId} {M : List SibU} {rest ZZ : List Value} (h : Arr w g t (M.flatMap enc ++ rest)) (hj : j ≤ M.length) (hZ : ZZ.length = (M.length - j) * k) : Arr (w.setCells g (j * k) ZZ) g t ((M.take j).flatMap enc ++ (ZZ ++ rest)) := by
  have hl := flat_len hk M; have hs : j * k + (M.length - j) * k = M.length * k := by rw [← Nat.add_mul]; congr 1; omega
  have h1 := Arr.setCells_from ZZ (j * k) w _ h (by rw [List.length_append, hl, hZ]; omega); rw [hZ, hs, List.take_append_of_le_length (by omega), take_flat hk, List.drop_append, hl, List.drop_of_length_le (by omega), List.nil_append, Nat.sub_self, List.drop_zero, List.append_assoc] at h1; exact h1
theorem at_bang {M : List SibU} {i : Nat} {x : SibU} (h : M[i]? = some x) : M.toArray[i]! = x := by
  rw [getElem!_def, List.getElem?_toArray, h]
theorem keepN_one {L : List SibU} (h : 1 ≤ L.length) : keepN L 1 = L.take 1 := by
  unfold keepN; obtain ⟨x, hx⟩ : ∃ x, L[0]? = some x := ⟨_, List.getElem?_eq_getElem (by omega)⟩; rw [hx]; simp only [ne_eq, not_true_eq_false, false_and, if_false]; unfold keepN; cases L with
  | nil => simp at h
  | cons a L => simp at hx; simp [hx]
theorem keepN_go {L : List SibU} {i : Nat} {x y : SibU} (h : keepN L i = L.take i) (hx : L[i]? = some x) (hy : L[i - 1]? = some y) (hne : y.1.d ≠ x.1.d) : keepN L (i + 1) = L.take (i + 1) := by
  unfold keepN; rw [hx]; simp only; rw [if_neg, h, List.take_add_one, hx]
  · rfl
  · rintro ⟨_, h2⟩; rw [hy] at h2; exact hne (Option.some.inj h2)
theorem keepN_dup {L : List SibU} {i : Nat} {x y : SibU} (hi : i ≠ 0) (hx : L[i]? = some x) (hy : L[i - 1]? = some y) (he : y.1.d = x.1.d) : keepN L (i + 1) = keepN L i := by
  conv => lhs; unfold keepN
  rw [hx]; simp only; rw [if_pos ⟨hi, by rw [hy, Option.map_some, he]⟩]
theorem keepN_add {L : List SibU} {i : Nat} {x y : SibU} (hx : L[i]? = some x) (hy : L[i - 1]? = some y) (hne : y.1.d ≠ x.1.d) : keepN L (i + 1) = keepN L i ++ [x] := by
  conv => lhs; unfold keepN
  rw [hx]; simp only; rw [if_neg]; rintro ⟨_, h2⟩; rw [hy] at h2; exact hne (Option.some.inj h2)
theorem keepN_le {L : List SibU} : ∀ i, (keepN L i).length ≤ i := by
  intro i
  induction i with
  | zero => exact Nat.le_refl _
  | succ i ih =>
    unfold keepN; cases L[i]? with
    | none => exact Nat.le_succ_of_le ih
    | some x =>
      simp only; split
      · exact Nat.le_succ_of_le ih
      · rw [List.length_append]; simp only [List.length_singleton]; omega
set_option maxRecDepth 1000000 in
set_option maxHeartbeats 8000000 in
theorem compact_any (k : Nat) (hk0 : 0 < k) (zE : ∀ w, (Go.sizeOf 45).run Tryz.prog w = .ok k w) (enc : SibU → List Value) (hk : ∀ x, (enc x).length = k) (hone : ∀ x, ∀ v ∈ enc x, v.oneCell' = true)
    (heq : ∀ x y w, Calls Tryz.prog 64 #[.agg (enc x).toArray, .agg (enc y).toArray] w fun e w' => e = .returned (.bool (decide (x.1.d = y.1.d))) ∧ GG w w')
    (z : Value) (hz : ∀ w, (zeroValue 45).run Tryz.prog w = .ok z w) (hzk : z.cells.size = k) (hz1 : ∀ v ∈ z.cells.toList, v.oneCell' = true)
    {L : List SibU} {g n c : Nat} {rest : List Value} {w : World} (hA : Arr w g 45 (L.flatMap enc ++ rest)) (hl : L.length = n) (hnc : n ≤ c) (hn : n ≤ 1000000) :
    Calls Tryz.prog 63 #[.slice (some ⟨g, 0, none⟩) n c, .func (.func 64) #[] #[]] w fun e w' => CompQ L enc k g n c rest w e w' := by
  have mixed : Tryz.prog.follows .mixedOrders = true := by kernel_rfl
  have aE := Tryz.isAgg45; have tS := Tryz.underlying46; have aS := Tryz.isAgg46; have zS := Tryz.sizeOf46; have HEQ := Lib.hid heq; have HZ := Lib.hid hz; have HZk := Lib.hid hzk; have HLen := Lib.hid hl; have HA := Lib.hid hA; clear heq hz hzk hl hA; have hnz : (n : Int) ≤ 1000000 := by omega
  go_enter Tryz.func63, Tryz.ntmps63
  by_cases h2 : n < 2
  · have h2z : (n : Int) < 2 := by omega
    have HK : Hid (keepN L n = L) := Lib.hid (by
      rcases Nat.lt_or_ge n 1 with h | h
      · have : n = 0 := by omega
        subst this; exact (List.eq_nil_of_length_eq_zero HLen.out).symm
      · have : n = 1 := by omega
        subst this; rw [keepN_one (by rw [HLen.out]; exact Nat.le_refl _), List.take_of_length_le (by rw [HLen.out]; exact Nat.le_refl _)])
    clear h2; go_wp2_with fail
    go_ret
    exact ⟨n, rest, rfl, by rw [HK.out, HLen.out], by rw [HK.out]; exact HA.out, rfl, Kx.refl _ _ _⟩
  · have h2z : ¬ (n : Int) < 2 := by omega
    have HK1 : Hid (keepN L 1 = L.take 1) := Lib.hid (keepN_one (by rw [HLen.out]; omega)); clear h2; go_wp2_with fail
    go_simp
    go_loopw [5] (fun v wr => CompA L enc g n rest w v wr) (fun v _ => n - (intOf v).toNat)
    case atStart => exact ⟨1, rfl, Nat.le_refl _, by omega, HK1.out, HA.out, Kx.refl _ _ _⟩
    case round =>
      obtain ⟨i, rfl, hi1, hin, hKi, hAr, hKx⟩ := hrel; have HKi := Lib.hid hKi; have HAr := Lib.hid hAr; clear hKi hAr
      by_cases hlt : i < n
      · have hlz : (i : Int) < (n : Int) := by omega
        obtain ⟨q, rfl⟩ : ∃ q, i = q + 1 := ⟨i - 1, by omega⟩; obtain ⟨x, hx⟩ : ∃ x, L[q + 1]? = some x := ⟨_, List.getElem?_eq_getElem (by rw [HLen.out]; exact hlt)⟩; obtain ⟨y, hy⟩ : ∃ y, L[q]? = some y := ⟨_, List.getElem?_eq_getElem (by rw [HLen.out]; omega)⟩; have HX := Lib.hid hx; have HY : Hid (L[q + 1 - 1]? = some y) := Lib.hid hy; have hln := HLen.out; have S1 : Aside (SWK enc k wr g 0 L.toArray wr) := SWK.start (holds_arr (d := L.toArray) hk hk0 HAr.out); have RK : RowK enc k wr g 0 L.toArray := ⟨hk, hone, holds_arr (d := L.toArray) hk hk0 HAr.out, HAr.out.lt⟩; have qz1 : (q : Int) + 1 < (n : Int) := by omega
        have qz2 : (q : Int) < (n : Int) := by omega
        have eA : ((q : Int) + 1).toNat = q + 1 := by omega
        have pA : (0 : Int) ≤ (q : Int) + 1 := by omega
        have rA : IntKind.i64.wrap ((q : Int) + 1) = (q : Int) + 1 := by rw [IntKind.wrap_i64]; omega
        have rB : IntKind.i64.wrap (q : Int) = (q : Int) := by rw [IntKind.wrap_i64]; omega
        have lA := S1.out.ld RK rfl Tryz.prog (q + 1) (by rw [List.size_toArray]; omega); have lB := S1.out.ld RK rfl Tryz.prog q (by rw [List.size_toArray]; omega); rw [at_bang hx] at lA; rw [at_bang hy] at lB; rw [Nat.zero_add] at lA lB; have hc := fun n' os' => HEQ.out x y (Go.Sort.grow (wr.drewN n') os'); have HAg : Hid (∀ n' os', Arr (Go.Sort.grow (wr.drewN n') os') g 45 (L.flatMap enc ++ rest)) := Lib.hid (fun n' os' => HAr.out.gr (GG.gr ⟨n', os', rfl⟩)); have HKg : Hid (∀ n' os', Kx g w.heap.size w (Go.Sort.grow (wr.drewN n') os')) := Lib.hid (fun n' os' => hKx.trans (Kx.of_gr hKx.size (GG.gr ⟨n', os', rfl⟩)))
        by_cases hd : x.1.d = y.1.d
        · have hdd : decide (x.1.d = y.1.d) = true := decide_eq_true hd; rw [hdd] at hc; have HD := Lib.hid hd; clear hx hy hln S1 RK hdd hd hKx
          go_upto_region 6 with fail
          go_quiet_grown (first | (go_at_call 64; refine Calls.grown_of (hc _ _)) | (go_at_fn 64; refine Calls.grown_of (hc _ _)) | (refine Calls.grown_of (hc _ _)))
          have hAg := HAg.out nq osq; have hKg := HKg.out nq osq; clear lA lB hc HAg HKg; generalize Go.Sort.grow (wr.drewN nq) osq = wv at hAg hKg ⊢; clear nq osq; have HAv := Lib.hid hAg; have HKv := Lib.hid hKg; have HKD : Hid (keepN L (q + 1 + 1) = L.take (q + 1)) := Lib.hid ((keepN_dup (by omega) HX.out HY.out HD.out.symm).trans HKi.out); clear hAg hKg HAr HKi HX HY HD; have hcz : (q : Int) + 1 ≤ (c : Int) := by omega
          have hcz2 : (n : Int) ≤ (c : Int) := by omega
          go_wp2_with fail
          go_simp; obtain ⟨r, hr⟩ : ∃ r, r = n - (q + 1) := ⟨_, rfl⟩; obtain ⟨rc, hrc⟩ : ∃ r, r = c - (q + 1) := ⟨_, rfl⟩; have HRN : Hid (n = q + 1 + r) := by show _ = _; omega
          have hrcr : r ≤ rc := by omega
          rw [← hr, ← hrc]; clear hr hrc
          go_loopw [5, 7] (fun v x wr => CompB L enc q g n rest w v x wr) (fun _ x _ => n - (intOf x).toNat)
          case atStart => exact ⟨q + 1, 1, L, by go_num, rfl, Nat.le_refl _, by omega, by rw [HKD.out, List.length_take, HLen.out]; omega, Nat.le_refl _, HLen.out, HKD.out.symm, fun _ _ => rfl, HAv.out, HKv.out⟩
          case round =>
            obtain ⟨j, k2, M, rfl, rfl, hk1, hkn, hj, hjq, hM, hT, hS, hAr, hKx⟩ := hrel; have HJ := Lib.hid hj; have HT := Lib.hid hT; have HSm := Lib.hid hS; have HAr := Lib.hid hAr; have HMl := Lib.hid hM; clear hj hT hS hAr hM
            by_cases hlt2 : k2 < r
            · have hlz2 : (k2 : Int) < (r : Int) := by omega
              obtain ⟨p, rfl⟩ : ∃ p, k2 = p + 1 := ⟨k2 - 1, by omega⟩; have hnr := HRN.out; obtain ⟨x2, hx2⟩ : ∃ x, L[q + 1 + (p + 1)]? = some x := ⟨_, List.getElem?_eq_getElem (by rw [HLen.out]; omega)⟩; obtain ⟨y2, hy2⟩ : ∃ y, L[q + 1 + p]? = some y := ⟨_, List.getElem?_eq_getElem (by rw [HLen.out]; omega)⟩; have hmx : M[q + 1 + (p + 1)]? = some x2 := (HSm.out _ (by omega)).trans hx2; have hmy : M[q + 1 + p]? = some y2 := (HSm.out _ (by omega)).trans hy2; have HX2 := Lib.hid hx2; have HY2 : Hid (L[q + 1 + (p + 1) - 1]? = some y2) := Lib.hid hy2; have hml := HMl.out; have S1 : Aside (SWK enc k wr g 0 M.toArray wr) := SWK.start (holds_arr (d := M.toArray) hk hk0 HAr.out); have RK : RowK enc k wr g 0 M.toArray := ⟨hk, hone, holds_arr (d := M.toArray) hk hk0 HAr.out, HAr.out.lt⟩; have lA := S1.out.ld RK rfl Tryz.prog (q + 1 + (p + 1)) (by rw [List.size_toArray]; omega); have lB := S1.out.ld RK rfl Tryz.prog (q + 1 + p) (by rw [List.size_toArray]; omega); rw [at_bang hmx] at lA; rw [at_bang hmy] at lB; rw [Nat.zero_add, Nat.add_mul (q + 1)] at lA lB; have hc := fun n' os' => HEQ.out x2 y2 (Go.Sort.grow (wr.drewN n') os'); have HAg : Hid (∀ n' os', Arr (Go.Sort.grow (wr.drewN n') os') g 45 (M.flatMap enc ++ rest)) := Lib.hid (fun n' os' => HAr.out.gr (GG.gr ⟨n', os', rfl⟩)); have HKg : Hid (∀ n' os', Kx g w.heap.size w (Go.Sort.grow (wr.drewN n') os')) := Lib.hid (fun n' os' => hKx.trans (Kx.of_gr hKx.size (GG.gr ⟨n', os', rfl⟩))); have pz1 : (p : Int) + 1 < (r : Int) := by omega
              have pz2 : (p : Int) < (r : Int) := by omega
              have eA2 : ((p : Int) + 1).toNat = p + 1 := by omega
              have pA2 : (0 : Int) ≤ (p : Int) + 1 := by omega
              have rA2 : IntKind.i64.wrap ((p : Int) + 1) = (p : Int) + 1 := by rw [IntKind.wrap_i64]; omega
              have rB2 : IntKind.i64.wrap (p : Int) = (p : Int) := by rw [IntKind.wrap_i64]; omega
              by_cases hd2 : x2.1.d = y2.1.d
              · have hdd : decide (x2.1.d = y2.1.d) = true := decide_eq_true hd2; rw [hdd] at hc; have HD2 := Lib.hid hd2; have HKe : Hid (keepN L (q + 1 + (p + 1) + 1) = keepN L (q + 1 + (p + 1))) := Lib.hid (keepN_dup (by omega) hx2 HY2.out hd2.symm); clear hx2 hy2 hmx hmy hml S1 RK hdd hd2 hKx hnr
                go_upto_region 11 with fail
                go_quiet_grown (first | (go_at_call 64; refine Calls.grown_of (hc _ _)))
                have hAg := HAg.out nq osq; have hKg := HKg.out nq osq; clear lA lB hc HAg HKg; generalize Go.Sort.grow (wr.drewN nq) osq = wv at hAg hKg ⊢; clear nq osq; go_wp2_with fail
                exact ⟨⟨j, p + 1 + 1, M, rfl, by go_num, by omega, by have := HRN.out; omega, HJ.out.trans (congrArg List.length HKe.out.symm), by omega, HMl.out, HT.out.trans HKe.out.symm, fun t ht => HSm.out t (by omega), hAg, hKg⟩, by have := HRN.out; simp [intOf]; omega⟩
              · have hdd : decide (x2.1.d = y2.1.d) = false := decide_eq_false hd2; rw [hdd] at hc; have HKe : Hid (keepN L (q + 1 + (p + 1 + 1)) = keepN L (q + 1 + (p + 1)) ++ [x2]) := Lib.hid (keepN_add hx2 HY2.out (fun e => hd2 e.symm)); have hjn : j < n := by omega
                have hjz : (j : Int) < (n : Int) := by omega
                clear hx2 hy2 hmy hml S1 RK hdd hd2 hKx hnr; have HMX := Lib.hid hmx; clear hmx
                go_upto_region 11 with fail
                go_quiet_grown (first | (go_at_call 64; refine Calls.grown_of (hc _ _)))
                have hAg := HAg.out nq osq; have hKg := HKg.out nq osq; clear lA lB hc HAg HKg; generalize Go.Sort.grow (wr.drewN nq) osq = wv at hAg hKg ⊢; clear nq osq; have hH := holds_arr (d := M.toArray) hk hk0 hAg; have lD := (SWK.start hH : SWK enc k wv g 0 M.toArray wv).load ⟨hk, hone, hH, hAg.lt⟩ rfl Tryz.prog (q + 1 + (p + 1)) (by have := HRN.out; have := HMl.out; rw [List.size_toArray]; omega); rw [at_bang HMX.out, Nat.zero_add, Nat.add_mul (q + 1)] at lD; have sD := stores_of_holds Tryz.prog hH (j * k) (enc x2) (by have := HMl.out; rw [Go.Sort.size_flatK, List.size_toArray, hk]; have := Nat.mul_le_mul_right k (show j + 1 ≤ M.length by omega); rwa [Nat.add_mul, Nat.one_mul] at this) (hone x2); rw [Nat.zero_add] at sD; have nD := hk x2; have HAn : Hid (Arr (wv.setCells g (j * k) (enc x2)) g 45 ((M.set j x2).flatMap enc ++ rest)) := Lib.hid (arr_set hk hAg (by rw [HMl.out]; exact hjn)); have HKn : Hid (Kx g w.heap.size w (wv.setCells g (j * k) (enc x2))) := Lib.hid (hKg.trans (Kx.cells _ _ _ _ _)); generalize enc x2 = cx at lD sD nD HAn HKn; clear hH hAg hKg; go_wp2_with fail
                exact ⟨⟨j + 1, p + 1 + 1, M.set j x2, by go_num, by go_num, by omega, by have := HRN.out; omega, by rw [HKe.out, List.length_append, ← HJ.out]; rfl, by omega, by rw [List.length_set]; exact HMl.out, by rw [set_take (by rw [HMl.out]; exact hjn), HT.out, HKe.out], fun t ht => (List.getElem?_set_ne (by omega)).trans (HSm.out t (by omega)), HAn.out, HKn.out⟩, by have := HRN.out; simp [intOf]; omega⟩
            · have hlz2 : ¬ (k2 : Int) < (r : Int) := by omega
              have hnr := HRN.out; have hke : q + 1 + k2 = n := by omega
              rw [hke] at HT HJ; have hjn : j < n := by omega
              have hjz : (j : Int) ≤ (n : Int) := by omega
              have hjc : (j : Int) ≤ (c : Int) := by omega
              have HMl2 := HMl.out; obtain ⟨ZZ, hZZ⟩ : ∃ Z, Z = (Builtin.zeroCells z.cells (n - j)).toList := ⟨_, rfl⟩; have hZl : ZZ.length = (M.length - j) * k := by rw [hZZ, zeroCells_length, HZk.out, HMl2]
              have hcl : ∀ ty, (Builtin.clear_ #[46] ty #[.slice (some ⟨g, j * k, none⟩) (n - j) (c - j)]).run Tryz.prog wr = .ok (.tuple #[]) (wr.setCells g (j * k) ZZ) := fun ty => by
                rw [hZZ]; refine run_clearK tS HZ.out hz1 (by omega) HAr.out ?_ (by rw [HZk.out]; exact hk0); rw [HZk.out, List.length_append, flat_len hk, HMl2]; have : j * k + (n - j) * k = n * k := by rw [← Nat.add_mul]; congr 1; omega
                omega
              have HAn := Lib.hid (arr_clear hk HAr.out (by omega : j ≤ M.length) hZl); have HKn := Lib.hid (hKx.trans (Kx.cells g w.heap.size (j * k) ZZ wr)); have HZl := Lib.hid hZl; clear hZZ hZl hke hnr HMl2 hKx; go_wp2_with fail
              go_ret
              exact ⟨j, ZZ ++ rest, rfl, HJ.out, by rw [← HT.out]; exact HAn.out, by
                have h1 := HZl.out; rw [HMl.out] at h1; have : (n - j) * k + j * k = n * k := by rw [← Nat.add_mul]; congr 1; omega
                rw [List.length_append, h1]; omega, HKn.out⟩
        · have hdd : decide (x.1.d = y.1.d) = false := decide_eq_false hd; rw [hdd] at hc; have HD := Lib.hid hd; clear hx hy hln S1 RK hdd hd hKx
          go_upto_region 6 with fail
          go_quiet_grown (first | (go_at_call 64; refine Calls.grown_of (hc _ _)) | (go_at_fn 64; refine Calls.grown_of (hc _ _)) | (refine Calls.grown_of (hc _ _)))
          have hAg := HAg.out nq osq; have hKg := HKg.out nq osq; clear lA lB hc HAg HKg; generalize Go.Sort.grow (wr.drewN nq) osq = wv at hAg hKg ⊢; clear nq osq; go_wp2_with fail
          exact ⟨⟨q + 1 + 1, by go_num, by omega, hlt, keepN_go HKi.out HX.out HY.out (fun e => HD.out e.symm), hAg, hKg⟩, by simp [intOf]; omega⟩
      · have hlz : ¬ (i : Int) < (n : Int) := by omega
        have hie : i = n := by omega
        have HK : Hid (keepN L n = L) := Lib.hid (by rw [← hie, HKi.out, List.take_of_length_le (by rw [HLen.out]; omega)]); clear hie; go_wp2_with fail
        go_ret
        exact ⟨n, rest, rfl, by rw [HK.out, HLen.out], by rw [HK.out]; exact HAr.out, rfl, hKx⟩
end Go.Proofs.YtjpphldojbfpfaaGreatDoor
namespace Go.Proofs.YtjpphldojbfpfaaGreatDoor
open Go.Shelf Go.RowKit Go.Lib Go.Sort
set_option maxHeartbeats 4000000 in
set_option maxRecDepth 1000000 in
theorem sortS_nil (A : Option Addr) (c : Nat) (fv : Value) (w : World) :
    Calls Tryz.prog 61 #[.slice A 0 c, fv] w fun e w' => e = .returned (.tuple #[]) ∧ w' = w := by
  have H1 : Hid (∀ w, Calls Tryz.prog 140 #[.slice A 0 c, .int .i64 0, .int .i64 0, fv] w fun e w' => e = .returned (.tuple #[]) ∧ w' = w) := Lib.hid (fun w => AnyF.insertionSortCmpFunc_none SibIns A c fv w)
  have H2 : Hid (∀ w, Calls Tryz.prog 110 #[.slice A 0 c, .int .i64 0, fv] w fun e w' => e = .returned (.tuple #[]) ∧ w' = w) := Lib.hid (by
    intro w
    go_enter Tryz.func110, Tryz.ntmps110
    go_wp2_with fail
    refine wp_loop_rounds 1 ?_; rw [rounds_succ]
    go_wp2_with (go_at_call 140; refine (H1.out w).mono ?_; rintro e w2 ⟨rfl, rfl⟩)
    refine wp_loop_rounds 1 ?_; rw [rounds_succ]; go_wp2_with fail
    go_end0
    exact ⟨rfl, rfl⟩)
  go_enter Tryz.func61, Tryz.ntmps61
  go_wp2_with (go_at_call 110; refine (H2.out w).mono ?_; rintro e w2 ⟨rfl, rfl⟩)
  go_end0
  exact ⟨rfl, rfl⟩
set_option maxHeartbeats 4000000 in
set_option maxRecDepth 1000000 in
theorem compact_nil (A : Option Addr) (c : Nat) (fv : Value) (w : World) :
    Calls Tryz.prog 63 #[.slice A 0 c, fv] w fun e w' => e = .returned (.slice A 0 c) ∧ w' = w := by
  go_enter Tryz.func63, Tryz.ntmps63
  go_wp2_with fail
  go_ret
  exact ⟨rfl, rfl⟩
theorem compactS_any {L : List SibU} {g n c : Nat} {rest : List Value} {w : World} (hA : Arr w g 45 (L.flatMap sibU ++ rest)) (hl : L.length = n) (hnc : n ≤ c) (hn : n ≤ 1000000) :
    Calls Tryz.prog 63 #[.slice (some ⟨g, 0, none⟩) n c, .func (.func 64) #[] #[]] w fun e w' => CompQ L sibU 20 g n c rest w e w' := by
  refine compact_any 20 (by omega) Tryz.sizeOf45 sibU sibU_length sibU_one (fun x y w => eqS_any x.2 y.2 w) _ Tryz.zeroValue45 ?_ ?_ hA hl hnc hn
  · rfl
  · intro v hv; simp only [Value.cells] at hv
    revert v
    decide
end Go.Proofs.YtjpphldojbfpfaaGreatDoor
namespace Go.Proofs.YtjpphldojbfpfaaGreatDoor
open Go.RowKit Go.Lib
def CellsR (w : World) (A : Option Addr) (xs : List Value) : Prop := ∀ j u, xs[j]? = some u → ∃ ad, A = some ad ∧ w.cell? (ad.add j) = some u
theorem CellsR.gr {w w' : World} {A : Option Addr} {xs : List Value} (h : CellsR w A xs) (hG : Gr w w') : CellsR w' A xs := fun j u hu => by
  obtain ⟨ad, e, hc⟩ := h j u hu; exact ⟨ad, e, Gr.cell hG hc⟩
section
variable {P : Program} (w : World)
theorem run_appK (base : Nat) (t ty e : TypeId) (i : TypeInfo) (z : Value) (size bytes : Nat) (ht : P.underlying t = some (.slice e)) (hi : P.info? e = some i) (hz : i.zero = some z)
    (hsize : i.size = size) (hby : i.bytes = bytes) (hzs : z.cells.size = size) (hsz : 0 < size)
    (v : Value) (n : Nat) (xs : List Value) (hown : w.ownsRow base e size v n xs)
    (A : Option Addr) (m c : Nat) (news : List Value) (hl : news.length = m * size) (hr : CellsR w A news) (h1 : ∀ u ∈ news, u.oneCell' = true)
    (hbytes : (n + m) * bytes ≤ 140737488355328) (h63 : n + m ≤ maxLen) (hbase : base ≤ w.heap.size) :
    ∃ v' w', (Builtin.append_ #[t, t] ty #[v, .slice A m c]).run P w = .ok v' w' ∧ w'.ownsRow base e size v' (n + m) (xs ++ news) ∧ w.grownBy w' v.ownBlock := by
  rcases A with _ | ad
  · have hn : news = [] := by
      cases news with
      | nil => rfl
      | cons u news =>
        obtain ⟨_, e, _⟩ := hr 0 u rfl; cases e
    subst hn
    have h0 : m = 0 := by
      rcases Nat.eq_zero_or_pos m with h | h
      · exact h
      · have := Nat.mul_pos h hsz; simp at hl; omega
    subst h0
    have e0 : (Builtin.append_ #[t, t] ty #[v, .slice none 0 c]).run P w = .ok v w := by
      rcases hown.2 with ⟨rfl, rfl⟩ | ⟨g, cap, cur, rfl, _, _, hnc, _⟩
      · simp [Builtin.append_, run_underlying ht, sizeOf, typeInfo, hi, Builtin.lenOf, Builtin.firstCells]
      · simp [Builtin.append_, run_underlying ht, sizeOf, typeInfo, hi, Builtin.lenOf, Builtin.firstCells, hnc, storeCells]
    exact ⟨v, w, e0, by simpa using hown, World.grownBy.refl w _⟩
  · obtain ⟨v', w', hrun, h2, h3, _, _⟩ := run_append_own_at (P := P) w base t ty e i z size bytes ht hi hz hsize hby hzs hsz v n xs hown ad m c news hl
      (fun j u hu => by obtain ⟨ad', e, hc⟩ := hr j u hu; injection e with e; subst e; exact hc) h1 h63 hbytes hbase
    exact ⟨v', w', hrun, h2, h3⟩
theorem wpList_appK {ops : Array Oper} {rest : List Oper} {o : Oper} {a : Act} {Q : Exit → Act → World → Prop} (hgd : o.guard = none) (s x : Operand) (t : TypeId)
    (ho : o.op = .call { callee := .builtin .append, args := #[s, x], argTypes := #[t, t] })
    (base : Nat) (e : TypeId) (i : TypeInfo) (z : Value) (size bytes : Nat) (ht : P.underlying t = some (.slice e)) (hi : P.info? e = some i) (hz : i.zero = some z)
    (hsize : i.size = size) (hby : i.bytes = bytes) (hzs : z.cells.size = size) (hsz : 0 < size)
    (v : Value) (n : Nat) (xs : List Value) (hs : a.eval s = v) (hown : w.ownsRow base e size v n xs)
    (A : Option Addr) (m c : Nat) (news : List Value) (hx : a.eval x = .slice A m c) (hl : news.length = m * size) (hr : CellsR w A news) (h1 : ∀ u ∈ news, u.oneCell' = true)
    (hbytes : (n + m) * bytes ≤ 140737488355328) (h63 : n + m ≤ maxLen) (hbase : base ≤ w.heap.size)
    (h : ∀ v' w', w'.ownsRow base e size v' (n + m) (xs ++ news) → Below base w w' → wpList P ops Q rest (a.put o.dst v') w') : wpList P ops Q (o :: rest) a w := by
  obtain ⟨v', w', hrun, h2, h3⟩ := run_appK (P := P) w base t o.type e i z size bytes ht hi hz hsize hby hzs hsz v n xs hown A m c news hl hr h1 hbytes h63 hbase; refine wpList_plain hgd fun _ hK => ?_; unfold Oper.wp execOp; simp only [ho, resolve, invoke, builtin, Sem.run_bind, Sem.run_pure, Result.andThen_ok, List.map_toArray, List.map_cons, List.map_nil, hs, hx, hrun]; exact hK _ _ (h v' w' h2 ((Below.refl base w).grown h3 hbase (fun k hk => (hown.lt k hk).1)))
end
theorem infoSb : (Tryz.prog.info? 45).map (fun i => (i.size, i.bytes, i.zero.map (·.cells.size))) = some (20, 192, some 20) := by kernel_rfl
theorem infoSb_parts : ∃ i z, Tryz.prog.info? 45 = some i ∧ i.zero = some z ∧ i.size = 20 ∧ i.bytes = 192 ∧ z.cells.size = 20 := by
  cases hie : Tryz.prog.info? 45 with
  | none => have := infoSb; rw [hie] at this; cases this
  | some ie =>
    have hq := infoSb; rw [hie] at hq; simp only [Option.map_some, Option.some.injEq, Prod.mk.injEq] at hq; obtain ⟨q1, q2, q3⟩ := hq; cases hz : ie.zero with
    | none => rw [hz] at q3; cases q3
    | some z =>
      rw [hz] at q3; exact ⟨ie, z, rfl, hz, q1, q2, by simpa using q3⟩
theorem sibsU_len (L : List SibU) : (L.flatMap sibU).length = L.length * 20 := flat_len sibU_length L
theorem sibsU_one (L : List SibU) : ∀ u ∈ L.flatMap sibU, u.oneCell' = true := by
  intro u hu; obtain ⟨d, _, hx⟩ := List.mem_flatMap.1 hu; exact sibU_one d u hx
set_option maxRecDepth 100000 in
set_option maxHeartbeats 2000000 in
theorem growS_any (n : Nat) (hn : n ≤ 1000000000) (w : World) :
    Calls Tryz.prog 109 #[.slice none 0 0, .int .i64 n] w fun e w' => ∃ v, e = .returned v ∧ w'.ownsRow w.heap.size 45 20 v 0 [] ∧ Below w.heap.size w w' := by
  obtain ⟨i0, z0, hi0, hz0, hz1, hz2, hz3⟩ := infoSb_parts; have h1 : ¬ ((n : Int) < 0) := by omega
  rcases Nat.eq_zero_or_pos n with h0 | h0
  · subst h0; simp only [show ((0 : Nat) : Int) = 0 from rfl]
    go_enter Tryz.func109, Tryz.ntmps109
    go_wp2_with fail
    go_ret
    exact ⟨_, rfl, World.ownsRow_nil _ _ _ _, Below.refl _ _⟩
  · have hrz := fun ty => Lib.run_append_grow_zeros (P := Tryz.prog) w 46 3 ty 45 i0 z0 .i64 .i64 Tryz.underlying46 Tryz.underlying3 hi0 hz0 none 0 0 [] (by rw [hz1]; exact run_firstCells_none w.drew 20 0 0 0) n (by omega) (by omega) (by omega) (by omega) (by rw [hz2]; omega) (growslice_fits (by omega) (by rw [hz2]; omega)); simp only [Nat.zero_add] at hrz; obtain ⟨zc, hzc⟩ : ∃ zc, zc = z0.cells := ⟨_, rfl⟩; rw [← hzc] at hz3; simp only [← hzc] at hrz; clear hzc; have hg := grownCap_ge w n 0 45; have hm := grownCap_le_maxLen w n 0 45 (by unfold maxLen; omega); have hg2 : grownCap w n 0 45 ≤ 9223372036854775807 := by unfold maxLen at hm; exact hm
    generalize grownCap w n 0 45 = G at hrz hg hm hg2; have h4 : (0 : Int) < (n : Int) := by omega
    go_enter Tryz.func109, Tryz.ntmps109
    go_wp2_with (at_builtin; refine Lib.wpList_append_run _ rfl _ _ _ _ rfl _ _ rfl rfl _ _ (hrz _) ?_)
    go_ret
    refine ⟨_, rfl, ⟨rfl, .inr ⟨w.heap.size, G, _, rfl, Nat.le_refl _, heap_alloc_new _ _, by omega, hm, ?_, rfl⟩⟩, ?_⟩
    · have e : ∀ k, (Builtin.zeroCells zc k).size = k * 20 := fun k => by simp [Builtin.zeroCells, hz3]
      simp only [Array.size_append, e]; have : n * 20 + (G - n) * 20 = G * 20 := by rw [← Nat.add_mul]; congr 1; omega
      simpa using this
    · exact ((Below.refl _ _).drew).alloc (Nat.le_refl _) _
structure PartU where
  A : Option Addr
  n : Nat
  c : Nat
  l : List SibU
def PartU.val (p : PartU) : Value := .slice p.A p.n p.c
structure PartsU (w : World) (A : Option Addr) (n : Nat) (ps : List PartU) : Prop where
  row : Rd w A n (ps.map PartU.val)
  each : ∀ p ∈ ps, CellsR w p.A (p.l.flatMap sibU) ∧ p.l.length = p.n
def allU (ps : List PartU) : List SibU := ps.flatMap (·.l)
section
variable {w w' : World} {A : Option Addr} {n : Nat} {ps : List PartU}
theorem PartsU.len (h : PartsU w A n ps) : ps.length = n := by simpa using h.row.1
theorem PartsU.gr (h : PartsU w A n ps) (g : Gr w w') : PartsU w' A n ps := ⟨g.rd h.row, fun p hp => ⟨(h.each p hp).1.gr g, (h.each p hp).2⟩⟩
theorem PartsU.at_ (h : PartsU w A n ps) {k : Nat} (hk : k < n) : ∃ ad p, A = some ad ∧ ps[k]? = some p ∧ w.cell? (ad.add k) = some p.val ∧ CellsR w p.A (p.l.flatMap sibU) ∧ p.l.length = p.n := by
  have hl : k < ps.length := by rw [h.len]; exact hk
  obtain ⟨ad, e, hc⟩ := h.row.2 k (ps[k]).val (by simp [List.getElem?_eq_getElem hl]); have hm : ps[k] ∈ ps := List.getElem_mem _; exact ⟨ad, ps[k], e, List.getElem?_eq_getElem hl, hc, (h.each _ hm).1, (h.each _ hm).2⟩
end
theorem allU_take {ps : List PartU} {k : Nat} {p : PartU} (h : ps[k]? = some p) : allU (ps.take (k + 1)) = allU (ps.take k) ++ p.l := by
  rw [take_snoc_ ps k p h, allU, List.flatMap_append]; simp [allU]
theorem allU_le {ps : List PartU} (k : Nat) : (allU (ps.take k)).length ≤ (allU ps).length := by
  have e : allU ps = allU (ps.take k) ++ allU (ps.drop k) := by
    rw [allU, allU, allU, ← List.flatMap_append, List.take_append_drop]
  rw [e, List.length_append]; omega
def CatQ (L : List SibU) (w : World) (e : Ending) (w' : World) : Prop := ∃ A n c, e = .returned (.slice A n c) ∧ n = L.length ∧ w'.ownsRow w.heap.size 45 20 (.slice A n c) n (L.flatMap sibU) ∧ Below w.heap.size w w'
theorem own_slice {w : World} {B : Nat} {e : TypeId} {k : Nat} {v : Value} {n : Nat} {xs : List Value} (h : w.ownsRow B e k v n xs) : ∃ A c, v = .slice A n c := by
  rcases h.2 with ⟨rfl, rfl⟩ | ⟨g, cap, cur, rfl, _⟩
  · exact ⟨_, _, rfl⟩
  · exact ⟨_, _, rfl⟩
set_option maxRecDepth 100000 in
set_option maxHeartbeats 2000000 in
theorem concatS_any (A : Option Addr) (n c : Nat) (ps : List PartU) (hn : n ≤ 1000000) (hl : (allU ps).length ≤ 1000000) (w : World) (h : PartsU w A n ps) :
    Calls Tryz.prog 60 #[.slice A n c] w fun e w' => CatQ (allU ps) w e w' := by
  obtain ⟨i0, z0, hi0, hz0, hz1, hz2, hz3⟩ := infoSb_parts; obtain ⟨T, hT⟩ : ∃ T : Nat → List SibU, T = fun k => allU (ps.take k) := ⟨_, rfl⟩; have hTl : ∀ k, (T k).length ≤ 1000000 := by intro k; rw [hT]; exact Nat.le_trans (allU_le k) hl
  have hTs : ∀ k p, ps[k]? = some p → T (k + 1) = T k ++ p.l := by intro k p hp; rw [hT]; exact allU_take hp
  have hTe : ∀ k, k = n → allU ps = T k := by intro k hk; rw [hT, hk, ← h.len]; simp
  have hT0 : T 0 = [] := by rw [hT]; simp [allU]
  have HTL := Lib.hid hTl; have HTS := Lib.hid hTs; have HTE := Lib.hid hTe; have HT0 := Lib.hid hT0; clear hT hTl hTs hTe hT0 hl
  go_enter Tryz.func60, Tryz.ntmps60
  go_wp2_with fail
  go_loop [3, 11] (fun s i => ∃ k z : Nat, k ≤ n ∧ i = .int .i64 k ∧ s = .int .i64 z ∧ Hid (z = (T k).length)) (fun _ i => n - (intOf i).toNat)
  case atStart => exact ⟨0, 0, by omega, rfl, rfl, by show _ = _; rw [HT0.out]; rfl⟩
  case round =>
    obtain ⟨k, z, hk, rfl, rfl, hz⟩ := hrel
    by_cases hlt : k < n
    · obtain ⟨ad, p, rfl, hp, hc, hr, hpl⟩ := h.at_ hlt; have hc' : w.cell? (ad.add k) = some (.slice p.A p.n p.c) := hc; have hz2 : z + p.n = (T (k + 1)).length := by rw [HTS.out k p hp, List.length_append, hz.out, hpl]
      have hz3 : z + p.n ≤ 1000000 := by rw [hz2]; exact HTL.out _
      have HZ2 := Lib.hid hz2; clear hz2 hc hp hpl; go_wp2_with fail
      go_round
      case rel => exact ⟨k + 1, z + p.n, by omega, by go_num, by go_num, HZ2⟩
      case measure => simp [intOf]; omega
    · obtain rfl : n = k := by omega
      have hzl : z ≤ 1000000 := by rw [hz.out]; exact HTL.out _
      go_wp2_with (go_at_call 109; refine (growS_any z (by omega) _).mono ?_; rintro e w1 ⟨v1, rfl, ho1, hB1⟩)
      have h1 := h.gr hB1; clear hlt hk hz hzl
      go_loopw [6, 27] (fun v i wr => ∃ k : Nat, k ≤ n ∧ i = .int .i64 k ∧ wr.ownsRow w.heap.size 45 20 v (T k).length ((T k).flatMap sibU) ∧ Below w.heap.size w wr) (fun _ i _ => n - (intOf i).toNat)
      case atStart => exact ⟨0, by omega, rfl, by rw [HT0.out]; exact ho1, hB1⟩
      case round =>
        clear h1 ho1 hB1; obtain ⟨k, hk, rfl, hown, hB⟩ := hrel; have hbs := hB.size
        by_cases hlt : k < n
        · obtain ⟨ad, p, rfl, hp, hc, hr, hpl⟩ := (h.gr hB).at_ hlt; have hc' : wr.cell? (ad.add k) = some (.slice p.A p.n p.c) := hc; have hTT := HTS.out k p hp; have hl1 : (T k).length + p.n = (T (k + 1)).length := by rw [hTT, List.length_append, hpl]
          have hl2 := HTL.out (k + 1); have HTT := Lib.hid hTT; have hll : (p.l.flatMap sibU).length = p.n * 20 := by rw [sibsU_len, hpl]
          have HLL := Lib.hid hll; obtain ⟨m, hm⟩ : ∃ m, m = (T k).length := ⟨_, rfl⟩; rw [← hm] at hown hl1; have hl3 : m + p.n ≤ 1000000 := by omega
          have HL1 := Lib.hid hl1; clear hl1 hl2 hc hp hpl hTT hm hll
          go_wp2_with (at_builtin; go_must (refine wpList_appK _ rfl (.tmp 31) (.tmp 32) 46 rfl w.heap.size 45 i0 z0 20 192 Tryz.underlying46 hi0 hz0 hz1 hz2 hz3 (by omega) u6 m _ rfl hown p.A p.n p.c _ rfl HLL.out hr (sibsU_one _) (by omega) (by unfold maxLen; omega) (by omega) ?_; rintro v2 w2 ho2 hB2))
          replace hB2 := hB.trans hB2
          rw [← List.flatMap_append, ← HTT.out, HL1.out] at ho2; clear hown hB hr; go_simp; go_wp2_with fail
          go_roundw
          case rel => exact ⟨k + 1, by omega, by go_num, ho2⟩
          case measure => simp [intOf]; omega
        · obtain rfl : n = k := by omega
          rw [← HTE.out n rfl] at hown; obtain ⟨A9, c9, rfl⟩ := own_slice hown; have HO := Lib.hid hown; clear hown; generalize hm : (allU ps).length = m at HO ⊢; have HM := Lib.hid hm; clear hm; go_wp2_with fail
          go_ret
          exact ⟨_, _, _, rfl, HM.out.symm, HO.out, hB⟩
end Go.Proofs.YtjpphldojbfpfaaGreatDoor
