/- The stream's plain laws, and the walk of the law ChachaStreams. No condition. -/
import Derived.Test.YtnjnhnhbeoegaaaCounts05
namespace Go.Proofs.Ytnjnhnhbeoegaaa
open Go.RowKit
theorem mixL_append (A B b : List UInt8) : mixL (A ++ B) b = mixL A b ++ mixL B (b.drop A.length) := by
  unfold mixL
  induction A generalizing b with
  | nil => simp
  | cons x A ih =>
    cases b with
    | nil => simp
    | cons y b => simp [ih b]
theorem streamAt_mix (K : List UInt8) (c : UInt32) (N b : List UInt8) (k : Nat) : streamAt K c N b k = mixL (blocksL K c N k) b := by
  induction k with
  | zero => simp [streamAt, blocksL, mixL]
  | succ k ih => rw [streamAt, blocksL, mixL_append, ih, blocksL_length]
theorem mixL_twice (a b : List UInt8) (h : b.length ≤ a.length) : mixL a (mixL a b) = b := by
  unfold mixL
  induction b generalizing a with
  | nil => cases a <;> simp
  | cons y b ih =>
    cases a with
    | nil => simp at h
    | cons x a =>
      rw [List.zipWith_cons_cons, List.zipWith_cons_cons, ih a (by simpa using h), ← UInt8.xor_assoc]
      simp
theorem streamL_twice (K : List UInt8) (c : UInt32) (N b : List UInt8) : streamL K c N (streamL K c N b) = b := by
  have hl := streamL_length K c N b
  rw [streamL, hl, streamAt_mix]
  rw [streamL, streamAt_mix]
  exact mixL_twice _ _ (by rw [blocksL_length]; omega)
theorem ofNat_succ32 (c : UInt32) (k : Nat) : c + 1 + UInt32.ofNat k = c + UInt32.ofNat (k + 1) := by
  apply UInt32.toNat_inj.1
  rw [UInt32.toNat_add, UInt32.toNat_add, UInt32.toNat_add, UInt32.toNat_ofNat', UInt32.toNat_ofNat', show (1 : UInt32).toNat = 1 from rfl]
  omega
theorem blocksL_succ (K : List UInt8) (c : UInt32) (N : List UInt8) (k : Nat) : blocksL K c N (k + 1) = blockL K c N ++ blocksL K (c + 1) N k := by
  induction k with
  | zero =>
    rw [blocksL, blocksL, blocksL, List.nil_append, List.append_nil, show c + UInt32.ofNat 0 = c by simp]
  | succ k ih =>
    rw [blocksL, ih]
    conv => rhs; rw [blocksL]
    rw [List.append_assoc, ofNat_succ32]
theorem streamL_drop (K : List UInt8) (c : UInt32) (N b : List UInt8) (h : 64 < b.length) : (streamL K c N b).drop 64 = streamL K (c + 1) N (b.drop 64) := by
  have e1 : (b.length + 63) / 64 = ((b.drop 64).length + 63) / 64 + 1 := by rw [List.length_drop]; omega
  rw [streamL, streamL, streamAt_mix, streamAt_mix, e1, blocksL_succ, mixL_append, blockL_length, List.drop_append_of_le_length (by rw [mixL_length, blockL_length]; omega)]
  rw [List.drop_of_length_le (by rw [mixL_length, blockL_length]; omega), List.nil_append]
theorem s_pickF {P : Program} {ops : Array Oper} {Q : Exit → Act → World → Prop} {L : List (Value → World → Prop)} {i : Nat} {o : Oper} {a : Act} {w : World} (hi : ops[i]? = some o) (hw : Wanted ops o a) (c x y : Operand) (ho : o.op = .pick c x y) (hc : a.eval c = .bool false) (v : Value) (e : a.eval y = v) (hφ : L.getD i AnyV = IsV v) : Step P ops Q L i o a w := by
  refine s_is hi hw v hφ ?_
  simp [execOp, ho, hc, e, asBool]
theorem run_cutRdK {P : Program} {T e : TypeId} (hT : P.underlying T = some (.slice e)) (hsz : (P.info? e).map (·.size) = some 1) {A : Option Addr} {n c k : Nat} {z : Int} (hz : z = k) (h1 : k ≤ n) (w : World) :
    (Instr.sliceAt T (.slice A n c) (some (.int .i64 z)) none none).run P w = .ok (.slice (if c = k then A else A.map (·.add k)) (n - k) (c - k)) w := by
  subst hz
  have e1 : P.elem T = e := by simp [Program.elem, hT]
  rw [run_sliceAt_slice w T _ _ _ _ (by rw [e1]; exact hT), run_slice_l w T _ _ _ (by rw [e1]; exact hT) _ _ (by omega) (by omega), e1]
  simp only [run_size1 hsz, Result.andThen_ok, sliced, Nat.mul_one, Int.toNat_natCast]
theorem run_cutAllO {P : Program} {T e : TypeId} {n : Nat} (hT : P.underlying T = some (.array n e)) (hsz : (P.info? e).map (·.size) = some 1) (g o : Nat) (w : World) :
    (Instr.sliceAt T (.pointer (some ⟨g, o, none⟩)) none none none).run P w = .ok (.slice (some ⟨g, o, none⟩) n n) w := by
  obtain ⟨e1, e2⟩ := arrayLen_of hT
  rw [run_sliceAt_array_all w T _ (by rw [e1, e2]; exact hT), e1, e2]
  simp only [run_size1 hsz, Result.andThen_ok, slicedAt, Nat.sub_zero, Nat.zero_mul, add_zero_, ite_self]
set_option maxRecDepth 100000 in
set_option maxHeartbeats 4000000 in
theorem law_streams (K : List UInt8) (hK : K.length = 32) (c0 : UInt32) (N : List UInt8) (hN : N.length = 12) (A : Option Addr) (n c : Nat) (b : List UInt8) (w : World) (hnc : n ≤ c) (hcm : c ≤ maxLen) (hb : Rd w A n (u8s b)) :
    Calls Try.prog 5 #[.agg (u8s K).toArray, .agg (.int .u32 (c0.toNat : Int) :: u8s N).toArray, .slice A n c] w fun e w' => e = .returned (.bool true) ∧ Below w.heap.size w w' := by
  unfold maxLen at hcm
  obtain ⟨i0, hi0, hz0, hz1, hz2⟩ := info_parts Try.info5
  obtain ⟨m, hm⟩ : ∃ m : Nat, m = min n 300 := ⟨_, rfl⟩
  have hk : min (n : Int) 300 = (m : Int) := by omega
  obtain ⟨l, hl⟩ : ∃ l, l = b.take m := ⟨_, rfl⟩
  have hbm : Rd w A m (u8s l) := by rw [hl, ← u8s_take]; exact hb.take (by omega)
  have hll : l.length = m := by simpa using hbm.1
  have hmn : (m : Int) ≤ n := by omega
  have hm3 : m ≤ 300 := by omega
  clear hl hb hm
  obtain ⟨x, hx⟩ : ∃ x, x = streamL K c0 N l := ⟨_, rfl⟩
  have hlx : x.length = m := by rw [hx, streamL_length, hll]
  have hx2 : streamL K c0 N x = l := by rw [hx]; exact streamL_twice K c0 N l
  have hx3 : 64 < m → streamL K (c0 + 1) N (l.drop 64) = x.drop 64 := fun h => by rw [hx]; exact (streamL_drop K c0 N l (by omega)).symm
  have hs1 := fun w A c hc hr => stream_any K hK c0 N hN A m c l (by omega) hc w hr
  have hs2 := fun w A c hc hr => stream_any K hK c0 N hN A m c x (by omega) hc w hr
  have hrs := fun w => refStream_any K hK c0 N hN l (by omega) w
  rw [← hx] at hs1 hrs
  rw [hx2] at hs2
  clear hx hx2
  have HS1 := Lib.hid hs1
  have HS2 := Lib.hid hs2
  have HRS := Lib.hid hrs
  have HX3 := Lib.hid hx3
  clear hs1 hs2 hrs hx3
  go_enter Try.func5, Try.ntmps5
  go_wp2_with (at_builtin; go_must (refine wpList_clip _ rfl (.tmp 11) (.tmp 16) 28 rfl 5 i0 (.int .u8 0) Try.underlying28 hi0 hz0 hz1 hz2 rfl (w.heap.size + 1 + 1) (by simp only [asz]) rfl A m c l rfl ((hbm.alloc _).alloc _) (by omega) ?_); intro v1 w1 ho1 hB1)
  obtain ⟨A2, c2, rfl, hc2, _⟩ := own_form ho1
  have hr2 := Rd.of_own ho1
  have h3 := Arr.below ((Arr.newAt (w := w) (t := 22) (C := (u8s K).toArray) rfl rfl).alloc (.cells (.int .u32 (c0.toNat : Int) :: u8s N).toArray 34)) hB1 (by simp only [asz]; omega)
  have h4 := Arr.below (Arr.newAt (w := w.alloc (.cells (u8s K).toArray 22)) (t := 34) (C := (.int .u32 (c0.toNat : Int) :: u8s N).toArray) (asz _ _) rfl) hB1 (by simp only [asz]; omega)
  have hB : Below w.heap.size w w1 := (((Below.refl _ _).alloc (by omega) _).alloc (by simp only [asz]; omega) _).trans (hB1.mono (by simp only [asz]; omega))
  have hcv := run_str (P := Try.prog) (c := c2) w1 Try.underlying28 Try.underlying5 Try.underlying9 hr2
  have q1 := h4.cell (i := 0) rfl
  clear hB1 ho1 hbm
  go_simp
  go_wp2_with first
    | (refine wpList_load_mid rfl 22 (.tmp 3) rfl w.heap.size 0 rfl (u8s K) _ h3.range Try.underlying22 rfl (info22 K hK) ?_)
    | (refine wpList_load_mid rfl 24 (.tmp 23) rfl (w.heap.size + 1) 1 rfl (u8s N) _ h4.range1 Try.underlying24 rfl (info24 N hN) ?_)
    | (refine wpList_load_mid rfl 24 (.tmp 30) rfl (w.heap.size + 1) 1 rfl (u8s N) _ h4.range1 Try.underlying24 rfl (info24 N hN) ?_)
    | (go_at_call_of 10 (Value.slice A2 m c2); refine (HS1.out _ A2 c2 hc2 hr2).mono ?_; rintro e w2 ⟨v8, rfl, ho8, hB2⟩; obtain ⟨A8, c8, rfl, hc8, _⟩ := own_form ho8; have hr8 := Rd.of_own ho8; replace h3 := h3.gr hB2; replace h4 := h4.gr hB2; replace hr2 := Gr.rd hB2 hr2; replace hB := hB.trans (hB2.mono hB.size); replace q1 := h4.cell (i := 0) rfl; clear hB2 ho8)
    | (go_at_call_of 10 (Value.slice A8 m c8); refine (HS2.out _ A8 c8 hc8 hr8).mono ?_; rintro e w3 ⟨v9, rfl, ho9, hB3⟩; obtain ⟨A9, c9, rfl, hc9, _⟩ := own_form ho9; have hr9 := Rd.of_own ho9; replace h3 := h3.gr hB3; replace h4 := h4.gr hB3; replace hr2 := Gr.rd hB3 hr2; replace hr8 := Gr.rd hB3 hr8; replace hB := hB.trans (hB3.mono hB.size); clear hB3 ho9 q1)
  clear hcv
  generalize w3 = W0 at h3 h4 hr2 hr8 hr9 hB ⊢
  have hr3 := h3.rdAll hK
  have hr4 := h4.rd1 hN
  refine wp_region_ssaL (by kernel_rfl) [IsV (.bool true), IsV (.bool false), IsV (.bool false), IsV (.slice A8 m c8), IsV (.string ⟨(x).toArray⟩), IsV (.slice (some ⟨w.heap.size, 0, none⟩) 32 32), IsV (.string ⟨(K).toArray⟩), IsV (.pointer (some ⟨w.heap.size + 1, 0, none⟩)), IsV (.int .u32 (c0.toNat : Int)), IsV (.pointer (some ⟨w.heap.size + 1, 1, none⟩)), IsV (.slice (some ⟨w.heap.size + 1, 1, none⟩) 12 12), IsV (.string ⟨(N).toArray⟩), IsV (.string ⟨(l).toArray⟩), IsV (.string ⟨(x).toArray⟩), IsV (.bool false), IsV (.bool false), IsV (.bool false), IsV (.slice A9 m c9), IsV (.string ⟨(l).toArray⟩), IsV (.string ⟨(l).toArray⟩), IsV (.bool false), IsV (.bool false), IsV (.bool false), IsV (.slice A2 m c2), IsV (.string ⟨(l).toArray⟩), IsV (.string ⟨(l).toArray⟩), IsV (.bool false), IsV (.bool false)] (by kernel_rfl) ?_ ?_ ?_
  · intro φ hφ v w1 w2 h hg
    simp only [List.mem_cons, List.not_mem_nil, or_false] at hφ
    rcases hφ with rfl | rfl | rfl | rfl | rfl | rfl | rfl | rfl | rfl | rfl | rfl | rfl | rfl | rfl | rfl | rfl | rfl | rfl | rfl | rfl | rfl | rfl | rfl | rfl | rfl | rfl | rfl | rfl
    all_goals first | exact h | exact RdV.gr h hg
  · refine ⟨?_, ?_, ?_, ?_, ?_, ?_, ?_, ?_, ?_, ?_, ?_, ?_, ?_, ?_, ?_, ?_, ?_, ?_, ?_, ?_, ?_, ?_, ?_, ?_, ?_, ?_, ?_, ?_, trivial⟩
    · intro a1 w1 hG hF
      exact s_call rfl (wants0 rfl) _ rfl _ _ (by simp only [execOp, resolve, invoke, List.map_toArray, List.map_nil]; go_simp) ((streams_any w1).mono fun e w2 ⟨he, hb⟩ => ⟨_, he, rfl, hb⟩)
    · intro a1 w1 hG hF
      obtain ⟨_, e34, rfl⟩ := hF.dp 0 34 (by kernel_rfl)
      exact s_is rfl (wants0 rfl) _ rfl (by simp only [execOp, e34]; go_simp)
    · intro a1 w1 hG hF
      exact s_same rfl (wants0 rfl) (.tmp 35) (.inr rfl) (hF.dp 1 35 (by kernel_rfl))
    · intro a1 w1 hG hF
      exact s_old rfl (wantsG hF 2 36 false rfl (by kernel_rfl) rfl) (.tmp 8) (.inr rfl) (.slice A8 m c8) (hF.ol 8 (by kernel_rfl)) rfl
    · intro a1 w1 hG hF
      obtain ⟨_, e37, rfl⟩ := hF.dp 3 37 (by kernel_rfl)
      exact s_str rfl (wantsG hF 2 36 false rfl (by kernel_rfl) rfl) _ _ _ (.tmp 37) rfl Try.underlying28 Try.underlying5 Try.underlying9 _ _ _ _ e37 (Gr.rd ((Gr.drew W0).trans hG) hr8) rfl
    · intro a1 w1 hG hF
      have e3 : a1.eval (.tmp 3) = .pointer (some ⟨w.heap.size, 0, none⟩) := hF.ol 3 (by kernel_rfl)
      exact s_is rfl (wantsG hF 2 36 false rfl (by kernel_rfl) rfl) _ rfl (by simp only [execOp, e3, Option.map, Sem.run_bind, run_cutAllO (P := Try.prog) Try.underlying22 (by kernel_rfl), Result.andThen_ok, Sem.run_pure])
    · intro a1 w1 hG hF
      obtain ⟨_, e39, rfl⟩ := hF.dp 5 39 (by kernel_rfl)
      exact s_str rfl (wantsG hF 2 36 false rfl (by kernel_rfl) rfl) _ _ _ (.tmp 39) rfl Try.underlying28 Try.underlying5 Try.underlying9 _ _ _ _ e39 (Gr.rd ((Gr.drew W0).trans hG) hr3) rfl
    · intro a1 w1 hG hF
      have e4 : a1.eval (.tmp 4) = .pointer (some ⟨w.heap.size + 1, 0, none⟩) := hF.ol 4 (by kernel_rfl)
      exact s_is rfl (wantsG hF 2 36 false rfl (by kernel_rfl) rfl) _ rfl (run_field (o := 0) (k := 0) Try.underlying34 rfl rfl (by kernel_rfl) e4)
    · intro a1 w1 hG hF
      obtain ⟨_, e41, rfl⟩ := hF.dp 7 41 (by kernel_rfl)
      exact s_is rfl (wantsG hF 2 36 false rfl (by kernel_rfl) rfl) _ rfl (run_load1 Try.underlying23 e41 ((h4.gr ((Gr.drew W0).trans hG)).cell (i := 0) rfl))
    · intro a1 w1 hG hF
      have e4 : a1.eval (.tmp 4) = .pointer (some ⟨w.heap.size + 1, 0, none⟩) := hF.ol 4 (by kernel_rfl)
      exact s_is rfl (wantsG hF 2 36 false rfl (by kernel_rfl) rfl) _ rfl (run_field (o := 1) (k := 11) Try.underlying34 rfl rfl (by kernel_rfl) e4)
    · intro a1 w1 hG hF
      obtain ⟨_, e43, rfl⟩ := hF.dp 9 43 (by kernel_rfl)
      exact s_is rfl (wantsG hF 2 36 false rfl (by kernel_rfl) rfl) _ rfl (by simp only [execOp, e43, Option.map, Sem.run_bind, run_cutAllO (P := Try.prog) Try.underlying24 (by kernel_rfl), Result.andThen_ok, Sem.run_pure])
    · intro a1 w1 hG hF
      obtain ⟨_, e44, rfl⟩ := hF.dp 10 44 (by kernel_rfl)
      exact s_str rfl (wantsG hF 2 36 false rfl (by kernel_rfl) rfl) _ _ _ (.tmp 44) rfl Try.underlying28 Try.underlying5 Try.underlying9 _ _ _ _ e44 (Gr.rd ((Gr.drew W0).trans hG) hr4) rfl
    · intro a1 w1 hG hF
      exact s_old rfl (wantsG hF 2 36 false rfl (by kernel_rfl) rfl) (.tmp 7) (.inr rfl) (.string ⟨(l).toArray⟩) (hF.ol 7 (by kernel_rfl)) rfl
    · intro a1 w1 hG hF
      obtain ⟨_, e40, rfl⟩ := hF.dp 6 40 (by kernel_rfl)
      obtain ⟨_, e42, rfl⟩ := hF.dp 8 42 (by kernel_rfl)
      obtain ⟨_, e45, rfl⟩ := hF.dp 11 45 (by kernel_rfl)
      obtain ⟨_, e46, rfl⟩ := hF.dp 12 46 (by kernel_rfl)
      exact s_call rfl (wantsG hF 2 36 false rfl (by kernel_rfl) rfl) _ rfl _ _ (by simp only [execOp, resolve, invoke, List.map_toArray, List.map_cons, List.map_nil, e40, e42, e45, e46]; go_simp) ((HRS.out w1).mono fun e w2 ⟨he, hb⟩ => ⟨_, he, rfl, hb⟩)
    · intro a1 w1 hG hF
      obtain ⟨_, e38, rfl⟩ := hF.dp 4 38 (by kernel_rfl)
      obtain ⟨_, e47, rfl⟩ := hF.dp 13 47 (by kernel_rfl)
      exact s_is rfl (wantsG hF 2 36 false rfl (by kernel_rfl) rfl) _ rfl (by simp only [execOp, e38, e47]; go_simp)
    · intro a1 w1 hG hF
      obtain ⟨_, e36, rfl⟩ := hF.dp 2 36 (by kernel_rfl)
      obtain ⟨_, e48, rfl⟩ := hF.dp 14 48 (by kernel_rfl)
      exact s_pickF rfl (wants0 rfl) (.tmp 36) _ (.tmp 48) rfl e36 _ e48 rfl
    · intro a1 w1 hG hF
      exact s_same rfl (wants0 rfl) (.tmp 49) (.inr rfl) (hF.dp 15 49 (by kernel_rfl))
    · intro a1 w1 hG hF
      exact s_old rfl (wantsG hF 16 50 false rfl (by kernel_rfl) rfl) (.tmp 9) (.inr rfl) (.slice A9 m c9) (hF.ol 9 (by kernel_rfl)) rfl
    · intro a1 w1 hG hF
      obtain ⟨_, e51, rfl⟩ := hF.dp 17 51 (by kernel_rfl)
      exact s_str rfl (wantsG hF 16 50 false rfl (by kernel_rfl) rfl) _ _ _ (.tmp 51) rfl Try.underlying28 Try.underlying5 Try.underlying9 _ _ _ _ e51 (Gr.rd ((Gr.drew W0).trans hG) hr9) rfl
    · intro a1 w1 hG hF
      exact s_old rfl (wantsG hF 16 50 false rfl (by kernel_rfl) rfl) (.tmp 7) (.inr rfl) (.string ⟨(l).toArray⟩) (hF.ol 7 (by kernel_rfl)) rfl
    · intro a1 w1 hG hF
      obtain ⟨_, e52, rfl⟩ := hF.dp 18 52 (by kernel_rfl)
      obtain ⟨_, e53, rfl⟩ := hF.dp 19 53 (by kernel_rfl)
      exact s_is rfl (wantsG hF 16 50 false rfl (by kernel_rfl) rfl) _ rfl (by simp only [execOp, e52, e53]; go_simp)
    · intro a1 w1 hG hF
      obtain ⟨_, e50, rfl⟩ := hF.dp 16 50 (by kernel_rfl)
      obtain ⟨_, e54, rfl⟩ := hF.dp 20 54 (by kernel_rfl)
      exact s_pickF rfl (wants0 rfl) (.tmp 50) _ (.tmp 54) rfl e50 _ e54 rfl
    · intro a1 w1 hG hF
      exact s_same rfl (wants0 rfl) (.tmp 55) (.inr rfl) (hF.dp 21 55 (by kernel_rfl))
    · intro a1 w1 hG hF
      exact s_old rfl (wantsG hF 22 56 false rfl (by kernel_rfl) rfl) (.tmp 2) (.inr rfl) (.slice A2 m c2) (hF.ol 2 (by kernel_rfl)) rfl
    · intro a1 w1 hG hF
      obtain ⟨_, e57, rfl⟩ := hF.dp 23 57 (by kernel_rfl)
      exact s_str rfl (wantsG hF 22 56 false rfl (by kernel_rfl) rfl) _ _ _ (.tmp 57) rfl Try.underlying28 Try.underlying5 Try.underlying9 _ _ _ _ e57 (Gr.rd ((Gr.drew W0).trans hG) hr2) rfl
    · intro a1 w1 hG hF
      exact s_old rfl (wantsG hF 22 56 false rfl (by kernel_rfl) rfl) (.tmp 7) (.inr rfl) (.string ⟨(l).toArray⟩) (hF.ol 7 (by kernel_rfl)) rfl
    · intro a1 w1 hG hF
      obtain ⟨_, e58, rfl⟩ := hF.dp 24 58 (by kernel_rfl)
      obtain ⟨_, e59, rfl⟩ := hF.dp 25 59 (by kernel_rfl)
      exact s_is rfl (wantsG hF 22 56 false rfl (by kernel_rfl) rfl) _ rfl (by simp only [execOp, e58, e59]; go_simp)
    · intro a1 w1 hG hF
      obtain ⟨_, e56, rfl⟩ := hF.dp 22 56 (by kernel_rfl)
      obtain ⟨_, e60, rfl⟩ := hF.dp 26 60 (by kernel_rfl)
      exact s_pickF rfl (wants0 rfl) (.tmp 56) _ (.tmp 60) rfl e56 _ e60 rfl
  · intro vs w1 hG hf
    have z61 : vs 27 = .bool false := hf.2.2.2.2.2.2.2.2.2.2.2.2.2.2.2.2.2.2.2.2.2.2.2.2.2.2.2.1
    clear hf
    simp only [putAll, Nat.zero_add, Nat.reduceAdd, z61]
    clear z61
    have hG0 := (Gr.drew W0).trans hG
    replace h3 := h3.gr hG0
    replace h4 := h4.gr hG0
    replace hr2 := hG0.rd hr2
    replace hr8 := hG0.rd hr8
    replace hB := hB.trans (hG0.mono hB.size)
    clear hr9 hr3 hr4 hG hG0
    generalize w1 = W1 at h3 h4 hr2 hr8 hB ⊢
    go_simp
    by_cases h64 : m ≤ 64
    · go_wp2_with fail
      go_ret
      exact ⟨rfl, hB⟩
    · have hx3 := HX3.out (by omega)
      obtain ⟨y, hy⟩ : ∃ y, y = x.drop 64 := ⟨_, rfl⟩
      have hs3 := fun w A c hc hr => stream_any K hK (c0 + 1) N hN A (m - 64) c (l.drop 64) (by omega) hc w hr
      rw [hx3, ← hy] at hs3
      have HY := Lib.hid hy
      have HS3 := Lib.hid hs3
      have hrc2 := hr2.cut (k := 64) (cap := c2) (by omega) hc2
      rw [u8s_drop] at hrc2
      have hrc8 := hr8.cut (k := 64) (cap := c8) (by omega) hc8
      rw [u8s_drop, ← hy] at hrc8
      clear hx3 hy hs3
      go_wp2_with fail
      refine wp_region_ssaL (by kernel_rfl) [IsV (.agg (u8s K).toArray), IsV (.pointer (some ⟨w.heap.size + 1, 0, none⟩)), IsV (.int .u32 (c0.toNat : Int)), IsV (.int .u32 ((c0 + 1).toNat : Int)), IsV (.pointer (some ⟨w.heap.size + 1, 1, none⟩)), IsV (.agg (u8s N).toArray), IsV (.slice A2 m c2), IsV (.slice (if c2 = 64 then A2 else A2.map (·.add 64)) (m - 64) (c2 - 64)), RdV (m - 64) (y), RdV (m - 64) (y)] (by kernel_rfl) ?_ ?_ ?_
      · intro φ hφ v w1 w2 h hg
        simp only [List.mem_cons, List.not_mem_nil, or_false] at hφ
        rcases hφ with rfl | rfl | rfl | rfl | rfl | rfl | rfl | rfl | rfl | rfl
        all_goals first | exact h | exact RdV.gr h hg
      · refine ⟨?_, ?_, ?_, ?_, ?_, ?_, ?_, ?_, ?_, ?_, trivial⟩
        · intro a1 w1 hG hF
          have e3 : a1.eval (.tmp 3) = .pointer (some ⟨w.heap.size, 0, none⟩) := hF.ol 3 (by kernel_rfl)
          exact s_wp rfl (wants0 rfl) (wp_load_mid _ _ rfl w.heap.size 0 e3 (u8s K) _ (h3.gr ((Gr.drew W1).trans hG)).range Try.underlying22 rfl (info22 K hK) ⟨_, rfl, rfl, Gr.refl _⟩)
        · intro a1 w1 hG hF
          have e4 : a1.eval (.tmp 4) = .pointer (some ⟨w.heap.size + 1, 0, none⟩) := hF.ol 4 (by kernel_rfl)
          exact s_is rfl (wants0 rfl) _ rfl (run_field (o := 0) (k := 0) Try.underlying34 rfl rfl (by kernel_rfl) e4)
        · intro a1 w1 hG hF
          obtain ⟨_, e66, rfl⟩ := hF.dp 1 66 (by kernel_rfl)
          exact s_is rfl (wants0 rfl) _ rfl (run_load1 Try.underlying23 e66 ((h4.gr ((Gr.drew W1).trans hG)).cell (i := 0) rfl))
        · intro a1 w1 hG hF
          obtain ⟨_, e67, rfl⟩ := hF.dp 2 67 (by kernel_rfl)
          exact s_is rfl (wants0 rfl) _ rfl (run_add32 (a := c0) (b := 1) e67 rfl)
        · intro a1 w1 hG hF
          have e4 : a1.eval (.tmp 4) = .pointer (some ⟨w.heap.size + 1, 0, none⟩) := hF.ol 4 (by kernel_rfl)
          exact s_is rfl (wants0 rfl) _ rfl (run_field (o := 1) (k := 11) Try.underlying34 rfl rfl (by kernel_rfl) e4)
        · intro a1 w1 hG hF
          obtain ⟨_, e69, rfl⟩ := hF.dp 4 69 (by kernel_rfl)
          exact s_wp rfl (wants0 rfl) (wp_load_mid _ _ rfl (w.heap.size + 1) 1 e69 (u8s N) _ (h4.gr ((Gr.drew W1).trans hG)).range1 Try.underlying24 rfl (info24 N hN) ⟨_, rfl, rfl, Gr.refl _⟩)
        · intro a1 w1 hG hF
          exact s_old rfl (wants0 rfl) (.tmp 2) (.inr rfl) (.slice A2 m c2) (hF.ol 2 (by kernel_rfl)) rfl
        · intro a1 w1 hG hF
          obtain ⟨_, e71, rfl⟩ := hF.dp 6 71 (by kernel_rfl)
          exact s_is rfl (wants0 rfl) _ rfl (by simp only [execOp, e71, show a1.eval (.const (.int .i64 64)) = .int .i64 64 from rfl, Option.map, Sem.run_bind, run_cutRdK (P := Try.prog) Try.underlying28 (by kernel_rfl) (k := 64) (z := 64) rfl (show 64 ≤ m by omega), Result.andThen_ok, Sem.run_pure])
        · intro a1 w1 hG hF
          obtain ⟨_, e65, rfl⟩ := hF.dp 0 65 (by kernel_rfl)
          obtain ⟨_, e68, rfl⟩ := hF.dp 3 68 (by kernel_rfl)
          obtain ⟨_, e70, rfl⟩ := hF.dp 5 70 (by kernel_rfl)
          obtain ⟨_, e72, rfl⟩ := hF.dp 7 72 (by kernel_rfl)
          exact s_call rfl (wants0 rfl) _ rfl _ _ (by simp only [execOp, resolve, invoke, List.map_toArray, List.map_cons, List.map_nil, e65, e68, e70, e72]; go_simp) ((HS3.out w1 _ (c2 - 64) (by omega) (Gr.rd ((Gr.drew W1).trans hG) hrc2)).mono fun e w2 ⟨v, he, ho, hb⟩ => ⟨_, he, RdV.own ho, hb⟩)
        · intro a1 w1 hG hF
          exact s_same rfl (wants0 rfl) (.tmp 73) (.inl rfl) (hF.dp 8 73 (by kernel_rfl))
      · intro vs w1 hG hf
        obtain ⟨A10, c10, z10, hc10, r10⟩ : RdV (m - 64) (y) (vs 9) w1 := hf.2.2.2.2.2.2.2.2.2.1
        clear hf
        simp only [putAll, Nat.zero_add, Nat.reduceAdd, z10]
        have hG1 := (Gr.drew W1).trans hG
        replace hrc8 := hG1.rd hrc8
        replace hB := hB.trans (hG1.mono hB.size)
        clear hrc2 hG hG1 h3 h4 z10
        generalize w1 = W2 at hrc8 hB r10 ⊢
        go_simp
        go_wp2_with fail
        refine wp_region_ssaL (by kernel_rfl) [IsV (.slice A8 m c8), IsV (.slice (if c8 = 64 then A8 else A8.map (·.add 64)) (m - 64) (c8 - 64)), IsV (.string ⟨(y).toArray⟩), IsV (.slice A10 (m - 64) c10), IsV (.string ⟨(y).toArray⟩), IsV (.bool true), IsV (.bool true)] (by kernel_rfl) ?_ ?_ ?_
        · intro φ hφ v w1 w2 h hg
          simp only [List.mem_cons, List.not_mem_nil, or_false] at hφ
          rcases hφ with rfl | rfl | rfl | rfl | rfl | rfl | rfl
          all_goals first | exact h | exact RdV.gr h hg
        · refine ⟨?_, ?_, ?_, ?_, ?_, ?_, ?_, trivial⟩
          · intro a1 w1 hG hF
            exact s_old rfl (wants0 rfl) (.tmp 8) (.inr rfl) (.slice A8 m c8) (hF.ol 8 (by kernel_rfl)) rfl
          · intro a1 w1 hG hF
            obtain ⟨_, e74, rfl⟩ := hF.dp 0 74 (by kernel_rfl)
            exact s_is rfl (wants0 rfl) _ rfl (by simp only [execOp, e74, show a1.eval (.const (.int .i64 64)) = .int .i64 64 from rfl, Option.map, Sem.run_bind, run_cutRdK (P := Try.prog) Try.underlying28 (by kernel_rfl) (k := 64) (z := 64) rfl (show 64 ≤ m by omega), Result.andThen_ok, Sem.run_pure])
          · intro a1 w1 hG hF
            obtain ⟨_, e75, rfl⟩ := hF.dp 1 75 (by kernel_rfl)
            exact s_str rfl (wants0 rfl) _ _ _ (.tmp 75) rfl Try.underlying28 Try.underlying5 Try.underlying9 _ _ _ _ e75 (Gr.rd ((Gr.drew W2).trans hG) hrc8) rfl
          · intro a1 w1 hG hF
            exact s_old rfl (wants0 rfl) (.tmp 10) (.inr rfl) (.slice A10 (m - 64) c10) (hF.ol 10 (by kernel_rfl)) rfl
          · intro a1 w1 hG hF
            obtain ⟨_, e77, rfl⟩ := hF.dp 3 77 (by kernel_rfl)
            exact s_str rfl (wants0 rfl) _ _ _ (.tmp 77) rfl Try.underlying28 Try.underlying5 Try.underlying9 _ _ _ _ e77 (Gr.rd ((Gr.drew W2).trans hG) r10) rfl
          · intro a1 w1 hG hF
            obtain ⟨_, e76, rfl⟩ := hF.dp 2 76 (by kernel_rfl)
            obtain ⟨_, e78, rfl⟩ := hF.dp 4 78 (by kernel_rfl)
            exact s_is rfl (wants0 rfl) _ rfl (by simp only [execOp, e76, e78]; go_simp)
          · intro a1 w1 hG hF
            exact s_same rfl (wants0 rfl) (.tmp 79) (.inl rfl) (hF.dp 5 79 (by kernel_rfl))
        · intro vs w1 hG hf
          have z6 : vs 6 = .bool true := hf.2.2.2.2.2.2.1
          clear hf
          simp only [putAll, Nat.zero_add, Nat.reduceAdd, z6]
          clear z6
          go_simp
          go_wp2_with fail
          go_ret
          exact ⟨rfl, hB.trans (((Gr.drew W2).trans hG).mono hB.size)⟩
end Go.Proofs.Ytnjnhnhbeoegaaa

