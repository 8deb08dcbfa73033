/- The walk of the law PolyBlocks. No condition. -/
import Derived.Test.YtacodfeflmbheaaNought06
import Derived.Test.YtacodfeflmbheaaSsaC
namespace Go.Proofs.Ytacodfeflmbheaa
open Go.RowKit
/-- A new array. -/
def NewA (B : Nat) (t : TypeId) (cs : List Value) : Value → World → Prop := fun v w => ∃ g, v = .pointer (some ⟨g, 0, none⟩) ∧ B ≤ g ∧ Arr w g t cs
theorem NewA.gr {B : Nat} {t : TypeId} {cs : List Value} {v : Value} {w w' : World} (h : NewA B t cs v w) (hg : Gr w w') : NewA B t cs v w' := by
  obtain ⟨g, h1, hb, h2⟩ := h
  exact ⟨g, h1, hb, h2.gr hg⟩
def keyO (e : List UInt8) : List UInt8 := 1 :: List.replicate 15 0 ++ e
theorem tag_one {b e : List UInt8} (hb : b.length = 16) : tagL (keyO e) b = leBytes 16 (leNat b + leNat e) := by
  have e1 : (keyO e).take 16 = 1 :: List.replicate 15 0 := by rw [keyO, List.take_append_of_le_length (by simp), List.take_of_length_le (by simp)]
  have e2 : (keyO e).drop 16 = e := by rw [keyO, List.drop_append_of_le_length (by simp), List.drop_of_length_le (by simp), List.nil_append]
  have e3 : leNat (rL (keyO e)) = 1 := by rw [rL, e1]; decide +kernel
  have e4 : blk b 0 = b := by rw [blk, Nat.mul_zero, List.drop_zero, List.take_of_length_le (by omega)]
  have hlt := leNat_lt b
  rw [hb] at hlt
  have e256 : (256 : Nat) ^ 16 = 340282366920938463463374607431768211456 := by decide +kernel
  rw [e256] at hlt
  have e0 : pH 1 b 0 = 0 := by rw [pH]
  have e5 : pH 1 b 1 = leNat b + 340282366920938463463374607431768211456 := by
    rw [pH, e4, hb, e256, e0, Nat.zero_add, Nat.mul_one]
    exact Nat.mod_eq_of_lt (by show _ < 1361129467683753853853498429727072845819; omega)
  rw [tagL, e3, e2, hb, show (16 + 15) / 16 = 1 from rfl, e5]
  have h1 := leBytes_mod 16 (leNat b + 340282366920938463463374607431768211456 + leNat e) 16 (Nat.le_refl _)
  have h2 := leBytes_mod 16 (leNat b + leNat e) 16 (Nat.le_refl _)
  rw [e256] at h1 h2
  rw [← h1, ← h2, show leNat b + 340282366920938463463374607431768211456 + leNat e = leNat b + leNat e + 340282366920938463463374607431768211456 from Nat.add_right_comm _ _ _, Nat.add_mod_right]
/-- What is over behind r digits. -/
def ovAt (b e : List UInt8) (r : Nat) : Nat := (leNat (b.take r) + leNat (e.take r)) / 256 ^ r
theorem ovAt_le {b e : List UInt8} (r : Nat) (hb : r ≤ b.length) (he : r ≤ e.length) : ovAt b e r ≤ 1 := by
  have h1 := leNat_lt (b.take r)
  have h2 := leNat_lt (e.take r)
  rw [List.length_take, Nat.min_eq_left hb] at h1
  rw [List.length_take, Nat.min_eq_left he] at h2
  have hp := Nat.pow_pos (n := r) (show 0 < 256 by omega)
  have : ovAt b e r < 2 := by rw [ovAt, Nat.div_lt_iff_lt_mul hp]; omega
  omega
theorem ovAt_succ {b e : List UInt8} {r : Nat} {x y : UInt8} (hx : b[r]? = some x) (hy : e[r]? = some y) : ovAt b e (r + 1) = (x.toNat + y.toNat + ovAt b e r) / 256 := by
  have hb : r < b.length := by rcases Nat.lt_or_ge r b.length with h | h; exact h; rw [List.getElem?_eq_none h] at hx; cases hx
  have he : r < e.length := by rcases Nat.lt_or_ge r e.length with h | h; exact h; rw [List.getElem?_eq_none h] at hy; cases hy
  have hp := Nat.pow_pos (n := r) (show 0 < 256 by omega)
  rw [ovAt, take_snoc_ b r x hx, take_snoc_ e r y hy, leNat_snoc, leNat_snoc, List.length_take, List.length_take, Nat.min_eq_left (by omega), Nat.min_eq_left (by omega), Nat.pow_succ, ← Nat.div_div_eq_div_mul]
  congr 1
  rw [show leNat (b.take r) + 256 ^ r * x.toNat + (leNat (e.take r) + 256 ^ r * y.toNat) = leNat (b.take r) + leNat (e.take r) + 256 ^ r * (x.toNat + y.toNat) by rw [Nat.mul_add]; omega, Nat.add_mul_div_left _ _ hp, ovAt]
  omega
theorem leBytes_get (k x i : Nat) (h : i < k) : (leBytes k x)[i]? = some (UInt8.ofNat (x / 256 ^ i)) := by
  induction k generalizing x i with
  | zero => omega
  | succ k ih =>
    rw [leBytes]
    cases i with
    | zero => simp
    | succ i => rw [List.getElem?_cons_succ, ih _ _ (by omega), Nat.div_div_eq_div_mul, Nat.pow_succ, Nat.mul_comm 256]
theorem digit_sum {b e : List UInt8} {r : Nat} {x y : UInt8} (hx : b[r]? = some x) (hy : e[r]? = some y) : (leNat b + leNat e) / 256 ^ r % 256 = (x.toNat + y.toNat + ovAt b e r) % 256 := by
  have hb : r < b.length := by rcases Nat.lt_or_ge r b.length with h | h; exact h; rw [List.getElem?_eq_none h] at hx; cases hx
  have he : r < e.length := by rcases Nat.lt_or_ge r e.length with h | h; exact h; rw [List.getElem?_eq_none h] at hy; cases hy
  have hp := Nat.pow_pos (n := r) (show 0 < 256 by omega)
  have s1 : ∀ (l : List UInt8) (z : UInt8), r < l.length → l[r]? = some z → leNat l = leNat (l.take r) + 256 ^ r * (z.toNat + 256 * leNat (l.drop (r + 1))) := by
    intro l z hl hz
    conv => lhs; rw [← List.take_append_drop r l]
    rw [leNat_append, List.length_take, Nat.min_eq_left (by omega), List.drop_eq_getElem_cons hl, leNat]
    have : l[r] = z := by simpa [hl] using hz
    rw [this]
  rw [s1 b x hb hx, s1 e y he hy, show leNat (b.take r) + 256 ^ r * (x.toNat + 256 * leNat (b.drop (r + 1))) + (leNat (e.take r) + 256 ^ r * (y.toNat + 256 * leNat (e.drop (r + 1)))) = leNat (b.take r) + leNat (e.take r) + 256 ^ r * (x.toNat + y.toNat + 256 * (leNat (b.drop (r + 1)) + leNat (e.drop (r + 1)))) by simp only [Nat.mul_add]; omega,
    Nat.add_mul_div_left _ _ hp, ← ovAt]
  omega
theorem run_conv_u8_i64 {P : Program} {ev : Operand → Value} {d : Option Tmp} {t T S : TypeId} {s : String} {af : Array Edge} {gd : Option (Nat × Bool)} {w : World} {x : Operand} {a : UInt8} (hs : P.underlying S = some (.int .u8)) (hd : P.underlying T = some (.int .i64)) (h1 : ev x = .int .u8 a.toNat) :
    (execOp ev ⟨d, .convert S T x, t, s, af, gd⟩).run P w = .ok (.value (.int .i64 ((a.toNat : Nat) : Int))) w := by
  have h := a.toNat_lt
  simp only [execOp, h1]
  go_simp
  exact IntWalk.i64_in _ (by omega)
theorem run_addI {P : Program} {ev : Operand → Value} {d : Option Tmp} {t T U : TypeId} {s : String} {af : Array Edge} {gd : Option (Nat × Bool)} {w : World} {x y : Operand} {a b : Nat} (h : a + b < 1000000000) (h1 : ev x = .int .i64 a) (h2 : ev y = .int .i64 b) :
    (execOp ev ⟨d, .binOp .add T x y U, t, s, af, gd⟩).run P w = .ok (.value (.int .i64 ((a + b : Nat) : Int))) w := by
  simp only [execOp, h1, h2]
  go_simp
  exact IntWalk.i64_in _ (by omega)
set_option maxRecDepth 100000 in
set_option maxHeartbeats 4000000 in
theorem law_blocks (b : List UInt8) (hb : b.length = 16) (e : List UInt8) (he : e.length = 16) (w : World) :
    Calls Try.prog 8 #[.agg (u8s b).toArray, .agg (u8s e).toArray] w fun e w' => e = .returned (.bool true) ∧ Below w.heap.size w w' := by
  obtain ⟨X, hX⟩ : ∃ X, X = keyO e := ⟨_, rfl⟩
  have hlX : X.length = 32 := by rw [hX, keyO]; simp [he]
  obtain ⟨T, hT⟩ : ∃ T, T = leBytes 16 (leNat b + leNat e) := ⟨_, rfl⟩
  have hlT : T.length = 16 := by rw [hT]; simp
  have hc := fun w A hr => polyTag_any X hlX A 16 16 b (Nat.le_refl _) w hr
  rw [hX, tag_one hb, ← hX, ← hT] at hc
  have HC := Lib.hid hc
  have HX := Lib.hid hX
  have HT := Lib.hid hT
  clear hc hX hT
  go_enter Try.func8, Try.ntmps8
  have c0 := (Arr.newAt (w := (w.alloc (.cells (u8s b).toArray 24)).alloc (.cells (u8s e).toArray 24)) (t := 22) (C := (u8s (List.replicate 32 0)).toArray) rfl rfl).cell (i := 0) rfl
  go_wp2_with fail
  generalize hW : ((w.alloc _).alloc _).alloc _ = W1
  have h2 : Arr W1 w.heap.size 24 (u8s b) := by rw [← hW]; exact ((Arr.newAt rfl rfl).alloc _).alloc _
  have h3 : Arr W1 (w.heap.size + 1) 24 (u8s e) := by rw [← hW]; exact (Arr.newAt (asz _ _) rfl).alloc _
  have h5 : Arr W1 (w.heap.size + 1 + 1) 22 (u8s (1 :: List.replicate 31 0)) := by rw [← hW]; exact Arr.newAt (by simp only [asz]) (by kernel_rfl)
  have hB : Below w.heap.size w W1 := by rw [← hW]; exact (((Below.refl _ _).alloc (by omega) _).alloc (by simp only [asz]; omega) _).alloc (by simp only [asz]; omega) _
  clear hW c0
  have WS : Hid ((u8s (1 :: List.replicate 31 0)).take 16 ++ u8s e ++ (u8s (1 :: List.replicate 31 0)).drop (16 + 16) = u8s X) := by
    show _ = _
    rw [HX.out, keyO, u8s_append, u8s_take, u8s_drop]
    rw [show (1 :: List.replicate 31 (0 : UInt8)).drop (16 + 16) = [] from rfl, show (1 :: List.replicate 31 (0 : UInt8)).take 16 = 1 :: List.replicate 15 0 from rfl]
    simp
  obtain ⟨g5, hg5⟩ : ∃ g, g = w.heap.size + 1 + 1 := ⟨_, rfl⟩
  rw [← hg5] at h5 ⊢
  have n5 : w.heap.size + 1 < g5 := by omega
  clear hg5
  refine wp_region_cut (by kernel_rfl) [IsV (.slice (some ⟨g5, 16, none⟩) 16 16), IsV (.slice (some ⟨w.heap.size + 1, 0, none⟩) 16 16)] 2 (by decide) (by kernel_rfl) (by kernel_rfl) (by kernel_rfl) ?_ ?_ ?_
  · intro φ hφ v w1 w2 h hg
    simp only [List.mem_cons, List.not_mem_nil, or_false] at hφ
    rcases hφ with rfl | rfl
    all_goals first | exact h | exact RdV.gr h hg
  · refine ⟨?_, ?_, trivial⟩
    · intro a1 w1 hG hF
      have e5 : a1.eval (.tmp 5) = .pointer (some ⟨g5, 0, none⟩) := hF.ol 5 (by kernel_rfl)
      exact s_is rfl (wants0 rfl) _ rfl (by simp only [execOp, e5, show a1.eval (.const (.int .i64 16)) = .int .i64 16 from rfl, Option.map, Sem.run_bind, run_cutA_l (P := Try.prog) Try.underlying22 (by kernel_rfl) g5 16 (by omega) 16 rfl, Result.andThen_ok, Sem.run_pure])
    · intro a1 w1 hG hF
      have e3 : a1.eval (.tmp 3) = .pointer (some ⟨w.heap.size + 1, 0, none⟩) := hF.ol 3 (by kernel_rfl)
      exact s_is rfl (wants0 rfl) _ rfl (by simp only [execOp, e3, Option.map, Sem.run_bind, run_cutAll (P := Try.prog) Try.underlying24 (by kernel_rfl), Result.andThen_ok, Sem.run_pure])
  · intro vs w1 hG hf
    have z11 : vs 0 = .slice (some ⟨g5, 16, none⟩) 16 16 := hf.1
    have z12 : vs 1 = .slice (some ⟨w.heap.size + 1, 0, none⟩) 16 16 := hf.2.1
    clear hf
    simp only [List.take_succ_cons, List.take_zero, List.drop_succ_cons, List.drop_zero, putAll, Nat.zero_add, z11, z12]
    replace h2 := h2.gr ((Gr.drew W1).trans hG)
    replace h3 := h3.gr ((Gr.drew W1).trans hG)
    replace h5 := h5.gr ((Gr.drew W1).trans hG)
    replace hB := hB.trans (((Gr.drew W1).trans hG).mono hB.size)
    clear hG z11 z12
    (refine wpList_copyA h5 rfl (.tmp 11) (.tmp 12) 23 23 rfl 5 Try.underlying23 (by kernel_rfl) 16 16 16 rfl (some ⟨w.heap.size + 1, 0, none⟩) 16 16 rfl (u8s e) (h3.rdAll he) (u8s_oneCell _) (by omega) (by simp) ?_; intro w2 h5n hB2 hO2; rw [WS.out] at h5n; replace h2 := hO2 _ _ _ (by omega) h2; replace h3 := hO2 _ _ _ (by omega) h3; replace hB := hB.trans (hB2.mono (by omega)); clear hB2 hO2 h5)
    have h5 := h5n
    clear h5n
    have hr2 := h2.rdAll hb
    have l3 := h3.lt
    generalize w2 = W2 at h2 h3 h5 hr2 hB l3 ⊢
    unfold wpList
    go_simp
    go_wp2_with fail
    refine wp_region_cut (by kernel_rfl) [IsV (.agg (u8s X).toArray), IsV (.slice (some ⟨w.heap.size, 0, none⟩) 16 16), IsV (.agg (u8s T).toArray), NewA W2.heap.size 24 (u8s (List.replicate 16 0))] 4 (by decide) (by kernel_rfl) (by kernel_rfl) (by kernel_rfl) ?_ ?_ ?_
    · intro φ hφ v w1 w2 h hg
      simp only [List.mem_cons, List.not_mem_nil, or_false] at hφ
      rcases hφ with rfl | rfl | rfl | rfl
      all_goals first | exact h | exact RdV.gr h hg | exact NewA.gr h hg
    · refine ⟨?_, ?_, ?_, ?_, trivial⟩
      · intro a1 w1 hG hF
        have e5 : a1.eval (.tmp 5) = .pointer (some ⟨g5, 0, none⟩) := hF.ol 5 (by kernel_rfl)
        exact s_wp rfl (wants0 rfl) (wp_load_mid _ _ rfl g5 0 e5 (u8s X) _ (h5.gr ((Gr.drew W2).trans hG)).range Try.underlying22 rfl (info22 X hlX) ⟨_, rfl, rfl, Gr.refl _⟩)
      · intro a1 w1 hG hF
        have e2 : a1.eval (.tmp 2) = .pointer (some ⟨w.heap.size, 0, none⟩) := hF.ol 2 (by kernel_rfl)
        exact s_is rfl (wants0 rfl) _ rfl (by simp only [execOp, e2, Option.map, Sem.run_bind, run_cutAll (P := Try.prog) Try.underlying24 (by kernel_rfl), Result.andThen_ok, Sem.run_pure])
      · intro a1 w1 hG hF
        obtain ⟨_, e14, rfl⟩ := hF.dp 0 14 (by kernel_rfl)
        obtain ⟨_, e15, rfl⟩ := hF.dp 1 15 (by kernel_rfl)
        exact s_call rfl (wants0 rfl) _ rfl _ _ (by simp only [execOp, resolve, invoke, List.map_toArray, List.map_cons, List.map_nil, e14, e15]; go_simp) ((HC.out w1 _ (Gr.rd ((Gr.drew W2).trans hG) hr2)).mono fun e w2 ⟨he, hb⟩ => ⟨_, he, rfl, hb⟩)
      · intro a1 w1 hG hF
        exact s_val rfl (wants0 rfl) _ rfl _ (w1.alloc (.cells (u8s (List.replicate 16 0)).toArray 24)) (by simp only [execOp]; go_simp; kernel_rfl) ⟨_, rfl, ((Gr.drew W2).trans hG).size, Arr.newAt rfl rfl⟩ (Gr.alloc _ _)
    · intro vs w1 hG hf
      have z16 : vs 2 = .agg (u8s T).toArray := hf.2.2.1
      have y6 : (NewA W2.heap.size 24 (u8s (List.replicate 16 0))) (vs 3) w1 := hf.2.2.2.1
      clear hf
      simp only [List.take_succ_cons, List.take_zero, List.drop_succ_cons, List.drop_zero, putAll, Nat.zero_add, Nat.reduceAdd, z16]
      have hG0 := (Gr.drew W2).trans hG
      replace h2 := h2.gr hG0
      replace h3 := h3.gr hG0
      replace hB := hB.trans (hG0.mono hB.size)
      obtain ⟨g6, z6, n6, h6⟩ := y6
      simp only [z6]
      (refine wpList_put h6 rfl 24 (.tmp 6) (.tmp 16) rfl (u8s T) rfl rfl (by simp [hlT]) (info16 T hlT) (u8s_oneCell _) ?_; intro w6 h6n hB6 hO6)
      unfold wpList
      replace h2 := hO6 _ _ _ (by omega) h2
      replace h3 := hO6 _ _ _ (by omega) h3
      replace hB := hB.trans (hB6.mono (by omega))
      generalize w6 = W3 at h2 h3 h6n hB ⊢
      clear hB6 hO6 h6 z6 z16 hG hG0 h5
      go_simp
      go_wp2_with fail
      go_loopw [7, 8] (fun ov i wr => ∃ r : Nat, r ≤ 16 ∧ i = .int .i64 r ∧ ov = .int .i64 (ovAt b e r : Nat) ∧ Arr wr w.heap.size 24 (u8s b) ∧ Arr wr (w.heap.size + 1) 24 (u8s e) ∧ Arr wr g6 24 (u8s T) ∧ Below w.heap.size w wr) (fun _ i _ => 16 - (intOf i).toNat)
      case atStart => exact ⟨0, by omega, rfl, by simp [ovAt, leNat], h2, h3, h6n, hB⟩
      case round =>
        obtain ⟨r, hr16, rfl, rfl, h2, h3, h6, hB⟩ := hrel
        by_cases hlt : r < 16
        · obtain ⟨x, hx⟩ : ∃ x, b[r]? = some x := ⟨_, List.getElem?_eq_getElem (by omega)⟩
          obtain ⟨y, hy⟩ : ∃ y, e[r]? = some y := ⟨_, List.getElem?_eq_getElem (by omega)⟩
          have ho1 := ovAt_le (b := b) (e := e) r (by omega) (by omega)
          have hs := ovAt_succ hx hy
          have hd := digit_sum hx hy
          obtain ⟨o, ho⟩ : ∃ o, o = ovAt b e r := ⟨_, rfl⟩
          rw [← ho] at ho1 hs hd ⊢
          have hxl := x.toNat_lt
          have hyl := y.toNat_lt
          obtain ⟨q, hq⟩ : ∃ q, q = x.toNat + y.toNat + o := ⟨_, rfl⟩
          have hT : T[r]? = some (UInt8.ofNat q) := by
            rw [HT.out, leBytes_get 16 _ r hlt]
            congr 1
            apply UInt8.toNat_inj.1
            rw [UInt8.toNat_ofNat', UInt8.toNat_ofNat', hq]
            exact hd
          rw [← hq] at hs
          have hql : q < 1000 := by omega
          have e8 : ((UInt8.ofNat q).toNat : Int) = (q : Int) % 256 := by rw [UInt8.toNat_ofNat']; omega
          have HS := Lib.hid hs
          have HQ := Lib.hid hq
          clear hs hd ho
          go_wp2_with fail
          refine wp_region_ssaL (by kernel_rfl) [IsV (.int .i64 (r : Nat)), IsV (.pointer (some ⟨w.heap.size, r, none⟩)), IsV (.int .u8 (x.toNat : Nat)), IsV (.int .i64 ((x.toNat : Nat) : Int)), IsV (.int .i64 (r : Nat)), IsV (.pointer (some ⟨w.heap.size + 1, r, none⟩)), IsV (.int .u8 (y.toNat : Nat)), IsV (.int .i64 ((y.toNat : Nat) : Int)), IsV (.int .i64 ((x.toNat + y.toNat : Nat) : Int)), IsV (.int .i64 (o : Nat)), IsV (.int .i64 ((x.toNat + y.toNat + o : Nat) : Int)), IsV (.int .i64 ((x.toNat + y.toNat + o : Nat) : Int))] (by kernel_rfl) ?_ ?_ ?_
          · intro φ hφ v w1 w2 h hg
            simp only [List.mem_cons, List.not_mem_nil, or_false] at hφ
            rcases hφ with rfl | rfl | rfl | rfl | rfl | rfl | rfl | rfl | rfl | rfl | rfl | rfl
            all_goals first | exact h | exact RdV.gr h hg
          · refine ⟨?_, ?_, ?_, ?_, ?_, ?_, ?_, ?_, ?_, ?_, ?_, ?_, trivial⟩
            · intro a1 w1 hG hF
              exact s_old rfl (wants0 rfl) (.tmp 8) (.inr rfl) (.int .i64 (r : Nat)) (hF.ol 8 (by kernel_rfl)) rfl
            · intro a1 w1 hG hF
              have e2 : a1.eval (.tmp 2) = .pointer (some ⟨w.heap.size, 0, none⟩) := hF.ol 2 (by kernel_rfl)
              obtain ⟨_, e21, rfl⟩ := hF.dp 0 21 (by kernel_rfl)
              exact s_is rfl (wants0 rfl) _ rfl (run_idx Try.underlying24 (by kernel_rfl) e2 e21 (by omega))
            · intro a1 w1 hG hF
              obtain ⟨_, e22, rfl⟩ := hF.dp 1 22 (by kernel_rfl)
              exact s_is rfl (wants0 rfl) _ rfl (run_load1 Try.underlying5 e22 ((h2.gr ((Gr.drew wr).trans hG)).cell (u8s_at hx)))
            · intro a1 w1 hG hF
              obtain ⟨_, e23, rfl⟩ := hF.dp 2 23 (by kernel_rfl)
              exact s_is rfl (wants0 rfl) _ rfl (run_conv_u8_i64 Try.underlying5 Try.underlying3 e23)
            · intro a1 w1 hG hF
              exact s_old rfl (wants0 rfl) (.tmp 8) (.inr rfl) (.int .i64 (r : Nat)) (hF.ol 8 (by kernel_rfl)) rfl
            · intro a1 w1 hG hF
              have e3 : a1.eval (.tmp 3) = .pointer (some ⟨w.heap.size + 1, 0, none⟩) := hF.ol 3 (by kernel_rfl)
              obtain ⟨_, e25, rfl⟩ := hF.dp 4 25 (by kernel_rfl)
              exact s_is rfl (wants0 rfl) _ rfl (run_idx Try.underlying24 (by kernel_rfl) e3 e25 (by omega))
            · intro a1 w1 hG hF
              obtain ⟨_, e26, rfl⟩ := hF.dp 5 26 (by kernel_rfl)
              exact s_is rfl (wants0 rfl) _ rfl (run_load1 Try.underlying5 e26 ((h3.gr ((Gr.drew wr).trans hG)).cell (u8s_at hy)))
            · intro a1 w1 hG hF
              obtain ⟨_, e27, rfl⟩ := hF.dp 6 27 (by kernel_rfl)
              exact s_is rfl (wants0 rfl) _ rfl (run_conv_u8_i64 Try.underlying5 Try.underlying3 e27)
            · intro a1 w1 hG hF
              obtain ⟨_, e24, rfl⟩ := hF.dp 3 24 (by kernel_rfl)
              obtain ⟨_, e28, rfl⟩ := hF.dp 7 28 (by kernel_rfl)
              exact s_is rfl (wants0 rfl) _ rfl (run_addI (by omega) e24 e28)
            · intro a1 w1 hG hF
              exact s_old rfl (wants0 rfl) (.tmp 7) (.inr rfl) (.int .i64 (o : Nat)) (hF.ol 7 (by kernel_rfl)) rfl
            · intro a1 w1 hG hF
              obtain ⟨_, e29, rfl⟩ := hF.dp 8 29 (by kernel_rfl)
              obtain ⟨_, e30, rfl⟩ := hF.dp 9 30 (by kernel_rfl)
              exact s_is rfl (wants0 rfl) _ rfl (run_addI (by omega) e29 e30)
            · intro a1 w1 hG hF
              exact s_same rfl (wants0 rfl) (.tmp 31) (.inl rfl) (hF.dp 10 31 (by kernel_rfl))
          · intro vs w1 hG hf
            have z9 : vs 11 = .int .i64 ((x.toNat + y.toNat + o : Nat) : Int) := hf.2.2.2.2.2.2.2.2.2.2.2.1
            clear hf
            simp only [putAll, Nat.zero_add, Nat.reduceAdd, z9]
            rw [← HQ.out]
            have hG0 := (Gr.drew wr).trans hG
            replace h2 := h2.gr hG0
            replace h3 := h3.gr hG0
            replace h6 := h6.gr hG0
            replace hB := hB.trans (hG0.mono hB.size)
            have c6 := h6.cell (u8s_at hT)
            rw [e8] at c6
            clear hG hG0 z9 hx hy hxl hyl ho1 hT e8
            go_simp
            go_wp2_with fail
            go_roundw
            case rel => exact ⟨r + 1, by omega, by go_num, by rw [HS.out]; go_num, h2, h3, h6, hB⟩
            case measure => simp [intOf]; omega
        · obtain rfl : r = 16 := by omega
          simp only [show ((16 : Nat) : Int) = 16 from rfl]
          go_wp2_with (go_at_call 10; refine (tags_any _).mono ?_; rintro e w9 ⟨rfl, hB9⟩)
          go_ret
          exact ⟨rfl, hB.trans (hB9.mono hB.size)⟩
end Go.Proofs.Ytacodfeflmbheaa

