/- The walk of the law AeadTag. No condition. -/
import Derived.Test.YthffodfnnjejnaaLASeals
import Derived.Test.YthffodfnnjejnaaIdx
namespace Go.Proofs.Ythffodfnnjejnaa
open Go.RowKit
theorem wrap_remM (z : Int) (m : Nat) (hm : 0 < m) (hm2 : m < 1000000) : ∃ i : Nat, i < m ∧ wrap64 ((IntKind.u64.wrap z).tmod m) = i := by
  have h0 : 0 ≤ z % 18446744073709551616 := Int.emod_nonneg _ (by omega)
  have h1 := Int.emod_lt_of_pos (z % 18446744073709551616) (b := m) (by omega)
  have h2 := Int.emod_nonneg (z % 18446744073709551616) (b := m) (by omega)
  refine ⟨((z % 18446744073709551616) % m).toNat, by omega, ?_⟩
  rw [IntKind.wrap_u64, Int.tmod_eq_emod_of_nonneg h0, Int.toNat_of_nonneg h2]
  exact IntWalk.wrap64_in _ (by omega)
section
variable {ev : Operand → Value} {d : Option Tmp} {t U : TypeId} {p : String} {af : Array Edge} {gd : Option (Nat × Bool)} {w : World} {x y : Operand}
theorem run_quo8 {m : Nat} (h1 : ev x = .int .i64 (m : Int)) (hm : m < 128) (h3 : ev (.const (.int .i64 8)) = .int .i64 8) :
    (execOp ev ⟨d, .binOp .quo 3 x (.const (.int .i64 8)) 3, t, p, af, gd⟩).run Try.prog w = .ok (.value (.int .i64 ((m / 8 : Nat) : Int))) w := by
  have hq : (m : Int).tdiv 8 = ((m / 8 : Nat) : Int) := by rw [Int.tdiv_eq_ediv_of_nonneg (by omega)]; omega
  simp only [execOp, h1, h3]
  go_simp
  exact IntWalk.i64_in _ (by omega)
theorem run_rem8 {m : Nat} (h1 : ev x = .int .i64 (m : Int)) (hm : m < 128) (h3 : ev (.const (.int .i64 8)) = .int .i64 8) :
    (execOp ev ⟨d, .binOp .rem 3 x (.const (.int .i64 8)) 3, t, p, af, gd⟩).run Try.prog w = .ok (.value (.int .i64 ((m % 8 : Nat) : Int))) w := by
  have hq : (m : Int).tmod 8 = ((m % 8 : Nat) : Int) := by rw [Int.tmod_eq_emod_of_nonneg (by omega)]; omega
  simp only [execOp, h1, h3]
  go_simp
def bitU (r : Nat) : UInt8 := UInt8.ofNat (2 ^ r)
theorem bitU_ne : ∀ r : Fin 8, bitU r.val ≠ 0 := by decide
theorem run_shl1 {r : Nat} (hr : r < 8) (h1 : ev y = .int .i64 (r : Int)) (h3 : ev (.const (.int .u8 1)) = .int .u8 1) :
    (execOp ev ⟨d, .binOp .shl 5 (.const (.int .u8 1)) y 3, t, p, af, gd⟩).run Try.prog w = .ok (.value (.int .u8 ((bitU r).toNat : Int))) w := by
  have : r = 0 ∨ r = 1 ∨ r = 2 ∨ r = 3 ∨ r = 4 ∨ r = 5 ∨ r = 6 ∨ r = 7 := by omega
  simp only [execOp, h3]
  rcases this with rfl | rfl | rfl | rfl | rfl | rfl | rfl | rfl <;> rw [h1] <;> go_simp <;> rfl
theorem run_xor8 {a b : UInt8} (h1 : ev x = .int .u8 a.toNat) (h2 : ev y = .int .u8 b.toNat) :
    (execOp ev ⟨d, .binOp .xor 5 x y U, t, p, af, gd⟩).run Try.prog w = .ok (.value (.int .u8 ((a ^^^ b).toNat : Int))) w := by
  simp only [execOp, h1, h2]
  go_simp
  exact u8_xor_nat _ _ a.toNat_lt b.toNat_lt
theorem run_idxRow {g n c k : Nat} (h1 : ev x = .slice (some ⟨g, 0, none⟩) n c) (h2 : ev y = .int .i64 (k : Int)) (hk : k < n) :
    (execOp ev ⟨d, .indexAddr 26 x y, t, p, af, gd⟩).run Try.prog w = .ok (.value (.pointer (some ⟨g, k, none⟩))) w := by
  have := run_idxSl (P := Try.prog) (d := d) (t := t) (p := p) (af := af) (gd := gd) (w := w) Try.underlying26 (by kernel_rfl) h1 h2 hk
  rw [this, add_row, Nat.zero_add]
end
theorem wpList_setA {P : Program} {w : World} {g : Nat} {t : TypeId} {cs : List Value} {ops : Array Oper} {rest : List Oper} {op : Oper} {a : Act} {Q : Exit → Act → World → Prop} (h : Arr w g t cs) (hgd : op.guard = none) (ty : TypeId) (x y : Operand) (ho : op.op = .store ty x y)
    (hT : (P.info? ty).map (·.size) = some 1) (i : Nat) (kd : IntKind) (z : Int) (hx : a.eval x = .pointer (some ⟨g, i, none⟩)) (hy : a.eval y = .int kd z) (hi : i < cs.length)
    (hK : ∀ w2, Arr w2 g t (cs.set i (.int kd z)) → Below g w w2 → (∀ g' t' cs', g' ≠ g → Arr w g' t' cs' → Arr w2 g' t' cs') → wpList P ops Q rest (a.put op.dst undef) w2) : wpList P ops Q (op :: rest) a w := by
  refine wpList_plain hgd fun K hKK => ?_
  unfold Oper.wp
  obtain ⟨dst, o, tt, ps, af, gd⟩ := op
  simp only at ho
  subst ho
  rw [run_store1 hT hx hy (by rw [h.cell (List.getElem?_eq_getElem hi)]; rfl) (h.frozen i)]
  exact hKK _ _ (hK _ (h.set i _) (below_setCell (Nat.le_refl _)) (fun g' t' cs' hne hA => hA.other hne _))
/-- The array behind a row. -/
theorem own_arr {w : World} {base : Nat} {e : TypeId} {n : Nat} {v : Value} {xs : List Value} (h : w.ownsRow base e 1 v n xs) (hn : 0 < n) : ∃ g c cs, v = .slice (some ⟨g, 0, none⟩) n c ∧ base ≤ g ∧ n ≤ c ∧ cs.length = c ∧ Arr w g e cs ∧ cs.take n = xs := by
  rcases h.2 with ⟨_, e2⟩ | ⟨g, cap, cur, e1, h1, h2, h3, _, h5, h6⟩
  · omega
  · exact ⟨g, cap, cur.toList, e1, h1, h3, by simpa using h5, by show w.heap[g]? = _; simpa using h2, by simpa using h6⟩
theorem Arr.rdTake {w : World} {g : Nat} {t : TypeId} {cs xs : List Value} {n : Nat} (h : Arr w g t cs) (hn : n ≤ cs.length) (hx : cs.take n = xs) : Rd w (some ⟨g, 0, none⟩) n xs := by
  have := h.rd 0 n (by omega)
  rwa [List.drop_zero, hx] at this
/-- With a byte of its tag changed it isn't what was sealed. -/
theorem opens_bent {K N W b : List UInt8} {j k : Nat} {y v : UInt8} (hb : b.length = j) (hk : k < 16) (hy : (sealL K N W b)[j + k]? = some y) (hv : v ≠ y) {e : Ending} {w' : World} (h : OpenQ K N W ((sealL K N W b).set (j + k) v) e w') : e = .returned (.tuple #[.slice none 0 0, .int .i64 6]) := by
  have hl : ((sealL K N W b).set (j + k) v).length = j + 16 := by simp [hb]
  rcases h with ⟨h1, _⟩ | ⟨_, _, he⟩ | ⟨_, h2, _⟩
  · omega
  · exact he
  · exfalso
    have hl2 : (sealL K N W b).length = j + 16 := by simp [hb]
    rw [hl, Nat.add_sub_cancel, List.take_set_of_le (by omega)] at h2
    have e1 := seal_take K N W b
    have e2 := seal_drop K N W b
    rw [hl2, Nat.add_sub_cancel] at e1 e2
    rw [e1, ← e2] at h2
    have h3 := congrArg (fun l => l[k]?) h2
    simp only [List.getElem?_drop] at h3
    rw [hy, List.getElem?_set_self (by omega)] at h3
    injection h3 with h3
    exact hv h3.symm
theorem bent_ne (y : UInt8) (r : Nat) (hr : r < 8) : y ^^^ bitU r ≠ y := by
  intro h
  have h2 : (y ^^^ bitU r) ^^^ y = 0 := by rw [h, UInt8.xor_self]
  rw [UInt8.xor_comm y, UInt8.xor_assoc, UInt8.xor_self, UInt8.xor_zero] at h2
  exact bitU_ne ⟨r, hr⟩ h2
set_option maxRecDepth 100000 in
set_option maxHeartbeats 8000000 in
theorem law_atag (K : List UInt8) (hK : K.length = 32) (N : List UInt8) (hN : N.length = 12) (B : Option Addr) (m d : Nat) (b0 : List UInt8) (z : Int) (w : World) (hmd : m ≤ d) (hb : Rd w B m (u8s b0)) :
    Calls Try.prog 5 #[.agg (u8s K ++ u8s N).toArray, .slice B m d, .int .i64 z] w fun e w' => e = .returned (.bool true) ∧ Below w.heap.size w w' := by
  obtain ⟨j, hji, hjm, hj2⟩ := cut_at m 150
  replace hji : min (m : Int) 150 = (j : Int) := hji
  have hrj : Rd w B j (u8s (b0.take j)) := by rw [← u8s_take]; exact hb.take hjm
  obtain ⟨b, hbb⟩ : ∃ b, b = b0.take j := ⟨_, rfl⟩
  rw [← hbb] at hrj
  have hbl : b.length = j := by simpa using hrj.1
  have hcut := fun w1 => run_cut_h (P := Try.prog) Try.underlying26 (by kernel_rfl) (A := B) (n := m) (c := d) (hi := j) (h := (j : Int)) rfl (by omega) w1
  obtain ⟨S, hS⟩ : ∃ S, S = sealL K N [] b := ⟨_, rfl⟩
  have hSl : S.length = j + 16 := by rw [hS]; simp [hbl]
  have HS : Hid (∀ w B d, j ≤ d → Rd w B j (u8s b) → Calls Try.prog 8 #[.agg (u8s K).toArray, .agg (u8s N).toArray, .slice none 0 0, .slice B j d] w fun e w' => ∃ v, e = .returned v ∧ w'.ownsRow w.heap.size 5 1 v (j + 16) (u8s S) ∧ Below w.heap.size w w') := by
    intro w B d hd h2
    rw [hS]
    exact seal_any K hK N hN none 0 0 [] B j d b (by omega) (by omega) hd w (Rd.nil _ _) h2
  obtain ⟨q, hq, hqe⟩ := wrap_remM z 128 (by omega) (by omega)
  have hk16 : q / 8 < 16 := by omega
  obtain ⟨y, hy⟩ : ∃ y, S[j + q / 8]? = some y := ⟨_, List.getElem?_eq_getElem (by omega)⟩
  obtain ⟨S2, hS2⟩ : ∃ T, T = S.set (j + q / 8) (y ^^^ bitU (q % 8)) := ⟨_, rfl⟩
  have hS2l : S2.length = j + 16 := by rw [hS2]; simp [hSl]
  have HO : Hid (∀ w B d, j + 16 ≤ d → Rd w B (j + 16) (u8s S2) → Calls Try.prog 9 #[.agg (u8s K).toArray, .agg (u8s N).toArray, .slice none 0 0, .slice B (j + 16) d] w fun e w' => e = .returned (.tuple #[.slice none 0 0, .int .i64 6]) ∧ Below w.heap.size w w') := by
    intro w B d hd h2
    refine (open_any K hK N hN none 0 0 [] B (j + 16) d S2 (by omega) (by omega) hd w (Rd.nil _ _) h2).mono ?_
    rintro e w' ⟨hQ, hB⟩
    rw [hS2, hS] at hQ
    exact ⟨opens_bent hbl hk16 (by rw [← hS]; exact hy) (bent_ne y _ (by omega)) hQ, hB⟩
  have HSET : Hid (∀ cs : List Value, cs.take (j + 16) = u8s S → j + 16 ≤ cs.length → (cs.set (j + q / 8) (.int .u8 ((y ^^^ bitU (q % 8)).toNat : Int))).take (j + 16) = u8s S2) := by
    intro cs h1 h2
    rw [List.take_set, h1, hS2, u8s_set]
  have h3 : Arr (w.alloc (.cells (u8s K ++ u8s N).toArray 25)) w.heap.size 25 (u8s K ++ u8s N) := Arr.newAt rfl rfl
  have G0 : Gr w (w.alloc (.cells (u8s K ++ u8s N).toArray 25)) := Gr.alloc _ _
  have iK := info22 K hK
  have iN := info24 N hN
  have hnl : ¬ ((j : Int) + 16 < 16) := by omega
  have hcy : (u8s S)[j + q / 8]? = some (.int .u8 (y.toNat : Int)) := u8s_at hy
  have HQE := Lib.hid hqe
  have HCY := Lib.hid hcy
  clear hbb hS hS2 hy hqe hcy
  go_enter Try.func5, Try.ntmps5
  go_upto_region 2 with fail
  generalize w.alloc (.cells (u8s K ++ u8s N).toArray 25) = w0 at h3 G0 ⊢
  obtain ⟨g3, hg3⟩ : ∃ g, g = w.heap.size := ⟨_, rfl⟩
  rw [← hg3] at h3
  simp only [← hg3]
  have HG3 := Lib.hid hg3
  clear hg3 hcut hji
  have hrj0 := G0.rd hrj
  have hrgK := h3.rangeL
  have hrgN := h3.rangeR hK
  go_wp2_with first
    | (refine wpList_load_mid rfl 22 (.tmp 16) rfl g3 0 rfl (u8s K) _ hrgK Try.underlying22 rfl iK ?_)
    | (refine wpList_load_mid rfl 23 (.tmp 18) rfl g3 32 rfl (u8s N) _ hrgN Try.underlying23 rfl iN ?_)
  refine (HS.out w0 B d (by omega) hrj0).mono ?_
  rintro e w1 ⟨v1, rfl, ho1, hB1⟩
  have h31 := h3.gr hB1
  have hB2 : Below w.heap.size w w1 := Below.trans G0 (Below.mono hB1 G0.size)
  have h3lt := h3.lt
  clear hrgK hrgN h3 G0 hrj0 hrj hb HS
  obtain ⟨A7, c7, hv7, hc7, _⟩ := own_form ho1
  subst hv7
  go_wp2_with fail
  refine (seals_any w1).mono ?_
  rintro e w2 ⟨rfl, hB3⟩
  have ho2 := Gr.own hB3 ho1
  have h32 := h31.gr hB3
  have hB4 := hB2.trans (hB3.mono hB2.size)
  clear ho1 h31 hB3 hB2
  have hcy := HCY.out
  obtain ⟨g7, c9, cs, hv7, hg7, _, hcl, hA7, htk⟩ := own_arr ho2 (by omega)
  injection hv7 with e1 e2 e3
  subst e1 e3
  have hcc : w2.cell? ⟨g7, j + q / 8, none⟩ = some (.int .u8 (y.toNat : Int)) := hA7.cell (by
    rw [← htk, List.getElem?_take, if_pos (by omega)] at hcy
    exact hcy)
  clear hcy
  go_upto_region 6 with fail
  have hqe : wrap64 ((IntKind.u64.wrap z).tmod 128) = (q : Int) := HQE.out
  simp only [hqe]
  clear hqe
  refine wp_region_cut (by kernel_rfl) [IsV (.slice (some ⟨g7, 0, none⟩) (j + 16) c7), IsV (.slice (some ⟨g7, 0, none⟩) (j + 16) c7), IsV (.int .i64 (((j + 16) : Nat) : Int)), IsV (.int .i64 ((j : Nat) : Int)), IsV (.int .i64 ((q : Nat) : Int)), IsV (.int .i64 (((q / 8) : Nat) : Int)), IsV (.int .i64 ((j + ((q / 8)) : Nat) : Int)), IsV (.pointer (some ⟨g7, (j + q / 8), none⟩)), IsV (.int .u8 ((y).toNat : Int)), IsV (.int .i64 ((q : Nat) : Int)), IsV (.int .i64 (((q % 8) : Nat) : Int)), IsV (.int .u8 ((bitU (q % 8)).toNat : Int)), IsV (.int .u8 ((y ^^^ bitU (q % 8)).toNat : Int)), IsV (.pointer (some ⟨g7, (j + q / 8), none⟩))] 14 (by decide) (by kernel_rfl) (by kernel_rfl) (by kernel_rfl) ?_ ?_ ?_
  · intro φ hφ v w1 w2 h hg
    simp only [List.mem_cons, List.not_mem_nil, or_false] at hφ
    rcases hφ with rfl | rfl | rfl | rfl | rfl | rfl | rfl | rfl | rfl | rfl | rfl | rfl | rfl | rfl
    all_goals first | exact h | exact RdV.gr h hg
  · refine ⟨?_, ?_, ?_, ?_, ?_, ?_, ?_, ?_, ?_, ?_, ?_, ?_, ?_, ?_, trivial⟩
    · intro a1 w1 hG hF
      exact s_old rfl (wants0 rfl) (.tmp 7) (.inr rfl) (.slice (some ⟨g7, 0, none⟩) (j + 16) c7) (hF.ol 7 (by kernel_rfl)) rfl
    · intro a1 w1 hG hF
      exact s_old rfl (wants0 rfl) (.tmp 7) (.inr rfl) (.slice (some ⟨g7, 0, none⟩) (j + 16) c7) (hF.ol 7 (by kernel_rfl)) rfl
    · intro a1 w1 hG hF
      obtain ⟨_, e34, rfl⟩ := hF.dp 1 34 (by kernel_rfl)
      exact s_is rfl (wants0 rfl) _ rfl (run_len_slice Try.underlying26 e34)
    · intro a1 w1 hG hF
      obtain ⟨_, e35, rfl⟩ := hF.dp 2 35 (by kernel_rfl)
      exact s_is rfl (wants0 rfl) _ rfl (by rw [show ((j : Nat) : Int) = ((j + 16 - 16 : Nat) : Int) by omega]; exact run_subN (a := j + 16) (b := 16) e35 rfl (by omega) (by omega))
    · intro a1 w1 hG hF
      exact s_old rfl (wants0 rfl) (.tmp 8) (.inr rfl) (.int .i64 ((q : Nat) : Int)) (hF.ol 8 (by kernel_rfl)) rfl
    · intro a1 w1 hG hF
      obtain ⟨_, e37, rfl⟩ := hF.dp 4 37 (by kernel_rfl)
      exact s_is rfl (wants0 rfl) _ rfl (run_quo8 e37 hq rfl)
    · intro a1 w1 hG hF
      obtain ⟨_, e36, rfl⟩ := hF.dp 3 36 (by kernel_rfl)
      obtain ⟨_, e38, rfl⟩ := hF.dp 5 38 (by kernel_rfl)
      exact s_is rfl (wants0 rfl) _ rfl (run_addN (a := j) (b := (q / 8)) e36 e38 (by omega))
    · intro a1 w1 hG hF
      obtain ⟨_, e33, rfl⟩ := hF.dp 0 33 (by kernel_rfl)
      obtain ⟨_, e39, rfl⟩ := hF.dp 6 39 (by kernel_rfl)
      exact s_is rfl (wants0 rfl) _ rfl (run_idxRow (k := j + q / 8) e33 e39 (by omega))
    · intro a1 w1 hG hF
      obtain ⟨_, e40, rfl⟩ := hF.dp 7 40 (by kernel_rfl)
      exact s_is rfl (wants0 rfl) _ rfl (run_load1 Try.underlying5 e40 (Gr.cell ((Gr.drew w2).trans hG) hcc))
    · intro a1 w1 hG hF
      exact s_old rfl (wants0 rfl) (.tmp 8) (.inr rfl) (.int .i64 ((q : Nat) : Int)) (hF.ol 8 (by kernel_rfl)) rfl
    · intro a1 w1 hG hF
      obtain ⟨_, e42, rfl⟩ := hF.dp 9 42 (by kernel_rfl)
      exact s_is rfl (wants0 rfl) _ rfl (run_rem8 e42 hq rfl)
    · intro a1 w1 hG hF
      obtain ⟨_, e43, rfl⟩ := hF.dp 10 43 (by kernel_rfl)
      exact s_is rfl (wants0 rfl) _ rfl (run_shl1 (by omega) e43 rfl)
    · intro a1 w1 hG hF
      obtain ⟨_, e41, rfl⟩ := hF.dp 8 41 (by kernel_rfl)
      obtain ⟨_, e44, rfl⟩ := hF.dp 11 44 (by kernel_rfl)
      exact s_is rfl (wants0 rfl) _ rfl (run_xor8 e41 e44)
    · intro a1 w1 hG hF
      obtain ⟨_, e33, rfl⟩ := hF.dp 0 33 (by kernel_rfl)
      obtain ⟨_, e39, rfl⟩ := hF.dp 6 39 (by kernel_rfl)
      exact s_is rfl (wants0 rfl) _ rfl (run_idxRow (k := j + q / 8) e33 e39 (by omega))
  · intro vs w1 hG hf
    have z45 : vs 12 = .int .u8 ((y ^^^ bitU (q % 8)).toNat : Int) := hf.2.2.2.2.2.2.2.2.2.2.2.2.1
    have z46 : vs 13 = .pointer (some ⟨g7, (j + q / 8), none⟩) := hf.2.2.2.2.2.2.2.2.2.2.2.2.2.1
    clear hf
    simp only [List.take_succ_cons, List.take_zero, List.drop_succ_cons, List.drop_zero, putAll, Nat.zero_add, Nat.reduceAdd, z45, z46]
    have hG6 := (Gr.drew w2).trans hG
    have hA71 := hA7.gr hG6
    have h33 := h32.gr hG6
    have hB5 := hB4.trans (hG6.mono hB4.size)
    refine wpList_setA hA71 rfl 5 (.tmp 46) (.tmp 45) rfl (by kernel_rfl) (j + q / 8) .u8 ((y ^^^ bitU (q % 8)).toNat : Int) (by kernel_rfl) (by kernel_rfl) (by omega) ?_
    intro w3 hA3 hB6 hO3
    have h34 := hO3 _ _ _ (by omega) h33
    have hr7 := hA3.rdTake (n := j + 16) (by simp; omega) (HSET.out cs htk (by omega))
    have hB7 := hB5.trans (hB6.mono (by have := HG3.out; omega))
    have hrgK := h34.rangeL
    have hrgN := h34.rangeR hK
    unfold wpList
    go_simp
    go_wp2_with first
      | (refine wpList_load_mid rfl 22 (.tmp 48) rfl g3 0 rfl (u8s K) _ hrgK Try.underlying22 rfl iK ?_)
      | (refine wpList_load_mid rfl 23 (.tmp 50) rfl g3 32 rfl (u8s N) _ hrgN Try.underlying23 rfl iN ?_)
    refine (HO.out w3 _ c7 hc7 hr7).mono ?_
    rintro e w4 ⟨rfl, hB8⟩
    go_wp2_with fail
    go_ret
    exact ⟨rfl, hB7.trans (hB8.mono hB7.size)⟩
end Go.Proofs.Ythffodfnnjejnaa

