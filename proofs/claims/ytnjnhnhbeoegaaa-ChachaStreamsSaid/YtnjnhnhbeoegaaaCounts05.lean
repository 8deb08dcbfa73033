/- The walk of the law ChachaCounts. No condition. -/
import Derived.Test.YtnjnhnhbeoegaaaRefStream05
namespace Go.Proofs.Ytnjnhnhbeoegaaa
open Go.RowKit
def blocksL (K : List UInt8) (c : UInt32) (N : List UInt8) : Nat → List UInt8
  | 0 => []
  | k + 1 => blocksL K c N k ++ blockL K (c + UInt32.ofNat k) N
@[simp] theorem blocksL_length (K : List UInt8) (c : UInt32) (N : List UInt8) (k : Nat) : (blocksL K c N k).length = 64 * k := by
  induction k with
  | zero => rfl
  | succ k ih => rw [blocksL, List.length_append, ih, blockL_length]; omega
theorem mixL_noughts (a : List UInt8) (n : Nat) (h : a.length ≤ n) : mixL a (List.replicate n 0) = a := by
  unfold mixL
  induction a generalizing n with
  | nil => simp
  | cons x a ih =>
    obtain ⟨m, rfl⟩ : ∃ m, n = m + 1 := ⟨n - 1, by simp at h; omega⟩
    rw [List.replicate_succ, List.zipWith_cons_cons, ih m (by simp at h; omega)]
    simp
theorem streamAt_noughts (K : List UInt8) (c : UInt32) (N : List UInt8) (m : Nat) : ∀ k, k ≤ m → streamAt K c N (List.replicate (64 * m) 0) k = blocksL K c N k := by
  intro k
  induction k with
  | zero => intro _; rfl
  | succ k ih =>
    intro hk
    rw [streamAt, blocksL, ih (by omega), List.drop_replicate, mixL_noughts _ _ (by rw [blockL_length]; omega)]
theorem streamL_noughts (K : List UInt8) (c : UInt32) (N : List UInt8) (m : Nat) : streamL K c N (List.replicate (64 * m) 0) = blocksL K c N m := by
  rw [streamL, List.length_replicate, show (64 * m + 63) / 64 = m by omega, streamAt_noughts K c N m m (Nat.le_refl _)]
theorem Arr.range1 {w : World} {g : Nat} {t : TypeId} {x : Value} {l : List Value} (h : Arr w g t (x :: l)) : w.rangeAt g 1 l := fun j v hv => by
  rw [Nat.add_comm]; exact h.cell (i := j + 1) (by simpa using hv)
theorem Arr.rd1 {w : World} {g : Nat} {t : TypeId} {x : Value} {l : List UInt8} (h : Arr w g t (x :: u8s l)) {n : Nat} (hn : l.length = n) : Rd w (some ⟨g, 1, none⟩) n (u8s l) := by
  subst hn
  have := h.rd 1 l.length (by simp; omega)
  rwa [List.drop_one, List.tail_cons, List.take_of_length_le (by simp)] at this
theorem wrap_rem (z : Int) (m : Nat) (hm : 0 < m) (hm2 : m < 1000) : ∃ i : Nat, i < m ∧ wrap64 ((IntKind.u64.wrap z).tmod m) = i := by
  have h0 : 0 ≤ z % 18446744073709551616 := Int.emod_nonneg _ (by omega)
  refine ⟨((z % 18446744073709551616) % m).toNat, ?_, ?_⟩
  · have := Int.emod_lt_of_pos (z % 18446744073709551616) (b := m) (by omega)
    have := Int.emod_nonneg (z % 18446744073709551616) (b := m) (by omega)
    omega
  · have h1 := Int.emod_lt_of_pos (z % 18446744073709551616) (b := m) (by omega)
    have h2 := Int.emod_nonneg (z % 18446744073709551616) (b := m) (by omega)
    rw [IntKind.wrap_u64, Int.tmod_eq_emod_of_nonneg h0, Int.toNat_of_nonneg h2]
    exact IntWalk.wrap64_in _ (by omega)
theorem run_field {P : Program} {ev : Operand → Value} {d : Option Tmp} {t T : TypeId} {s : String} {af : Array Edge} {gd : Option (Nat × Bool)} {w : World} {x : Operand} {g i o k : Nat} {fs : Array Field} {f : Field} (hT : P.underlying T = some (.struct fs)) (hf : fs[i]? = some f) (ho : f.offset = o)
    (hsz : (P.info? f.type).map (·.size) = some (k + 1)) (h1 : ev x = .pointer (some ⟨g, 0, none⟩)) :
    (execOp ev ⟨d, .fieldAddr T x i, t, s, af, gd⟩).run P w = .ok (.value (.pointer (some ⟨g, o, none⟩))) w := by
  subst ho
  have hs : (sizeOf f.type).run P w = .ok (k + 1) w := by
    cases hq : P.info? f.type with
    | none => simp [hq] at hsz
    | some ti =>
      have h2 : ti.size = k + 1 := by simpa [hq] using hsz
      simp [sizeOf, typeInfo, hq, h2]
  simp [execOp, h1, Instr.fieldAt, Instr.sureAddr, run_underlying hT, hf, fieldPlace, hs, add_row]
set_option maxHeartbeats 4000000 in
theorem law_counts (K : List UInt8) (hK : K.length = 32) (c0 : UInt32) (N : List UInt8) (hN : N.length = 12) (z : Int) (w : World) :
    Calls Try.prog 6 #[.agg (u8s K).toArray, .agg (.int .u32 (c0.toNat : Int) :: u8s N).toArray, .int .i64 z] w fun e w' => e = .returned (.bool true) ∧ Below w.heap.size w w' := by
  obtain ⟨i0, hi0, hz0, hz1, hz2⟩ := info_parts Try.info5
  obtain ⟨m, hm5, hm⟩ := wrap_rem z 5 (by omega) (by omega)
  go_enter Try.func6, Try.ntmps6
  go_wp2_with fail
  simp only [show ((5 : Nat) : Int) = 5 from rfl] at hm
  simp only [hm]
  have h3 : Arr ((w.alloc (.cells (u8s K).toArray 22)).alloc (.cells (.int .u32 (c0.toNat : Int) :: u8s N).toArray 34)) w.heap.size 22 (u8s K) := (Arr.newAt rfl rfl).alloc _
  have h4 : Arr ((w.alloc (.cells (u8s K).toArray 22)).alloc (.cells (.int .u32 (c0.toNat : Int) :: u8s N).toArray 34)) (w.heap.size + 1) 34 (.int .u32 (c0.toNat : Int) :: u8s N) := Arr.newAt (asz _ _) rfl
  have hb : Below w.heap.size w ((w.alloc (.cells (u8s K).toArray 22)).alloc (.cells (.int .u32 (c0.toNat : Int) :: u8s N).toArray 34)) := ((Below.refl _ _).alloc (Nat.le_refl _) _).alloc (by rw [asz]; omega) _
  have hzW : ((w.alloc (.cells (u8s K).toArray 22)).alloc (.cells (.int .u32 (c0.toNat : Int) :: u8s N).toArray 34)).heap.size = w.heap.size + 2 := by simp only [asz]
  generalize ((w.alloc (.cells (u8s K).toArray 22)).alloc (.cells (.int .u32 (c0.toNat : Int) :: u8s N).toArray 34)) = W at h3 h4 hb hzW ⊢
  obtain ⟨B, hB⟩ : ∃ B, B = w.heap.size + 2 := ⟨_, rfl⟩
  rw [← hB] at hzW
  have l3 : w.heap.size < B := by omega
  have l4 : w.heap.size + 1 < B := by omega
  clear hB hm
  go_loopw [7, 8] (fun v i wr => ∃ r : Nat, r ≤ m ∧ i = .int .i64 r ∧ wr.ownsRow B 5 1 v (64 * r) (u8s (blocksL K c0 N r)) ∧ Below B W wr) (fun _ i _ => m - (intOf i).toNat)
  case atStart => exact ⟨0, by omega, rfl, by simpa [blocksL] using World.ownsRow_nil _ _ _ _, Below.refl _ _⟩
  case round =>
    obtain ⟨r, hrm, rfl, hown, hbw⟩ := hrel
    have h3 := h3.below hbw l3
    have h4 := h4.below hbw l4
    have hbs := hbw.size
    have hbs' : B ≤ wr.heap.size := by omega
    by_cases hlt : r < m
    · obtain ⟨x, hx⟩ : ∃ x, x = c0 + UInt32.ofNat r := ⟨_, rfl⟩
      obtain ⟨k, hk⟩ : ∃ k, k = blockL K x N := ⟨_, rfl⟩
      have hlk : k.length = 64 := by rw [hk]; simp
      have hc1 := fun w => block_any K hK x N hN w
      rw [← hk] at hc1
      have hST : Hid (u8s (blocksL K c0 N (r + 1)) = u8s (blocksL K c0 N r) ++ u8s k) := by show _ = _; rw [hk, hx, ← u8s_append]; rfl
      have hxe : ((c0.toNat : Int) + (r : Int)) % 4294967296 = (x.toNat : Int) := by rw [hx, UInt32.toNat_add, UInt32.toNat_ofNat']; omega
      have hre : (r : Int) % 4294967296 = r := by omega
      have q1 := h4.cell (i := 0) rfl
      clear hx hk
      go_wp2_with first
        | (refine wpList_load_mid rfl 22 (.tmp 3) rfl w.heap.size 0 rfl (u8s K) _ h3.range Try.underlying22 rfl (info22 K hK) ?_)
        | (refine wpList_load_mid rfl 24 (.tmp 25) rfl (w.heap.size + 1) 1 rfl (u8s N) _ h4.range1 Try.underlying24 rfl (info24 N hN) ?_)
        | (go_at_call 7; refine (hc1 _).mono ?_; rintro e w1 ⟨rfl, hB1⟩)
        | (refine wpList_new rfl 25 (.tmp 9) (.tmp 27) rfl _ (u8s k) rfl rfl rfl (by simp only [u8s_length, hlk]; rfl) (info25 k hlk) (u8s_oneCell k) ?_; intro w3 h9 hG3; have hG := Gr.trans hB1 hG3; have hown3 := Gr.own hG hown; have hsz3 := hG.size)
        | (at_builtin; go_must (refine wpList_app _ rfl (.tmp 28) (.tmp 29) 28 rfl B 5 i0 (.int .u8 0) 1 Try.underlying28 hi0 hz0 hz1 hz2 rfl u7 (64 * r) _ rfl hown3 (some ⟨w1.heap.size, 0, none⟩) 64 64 _ rfl (h9.rdAll hlk) (u8s_oneCell _) (by omega) (by unfold maxLen; omega) (by omega) ?_; rintro v7 w7 hA7))
      refine ⟨⟨r + 1, by omega, by go_num, ?_, hbw.trans ((hG.mono hbs').trans (hA7.below hown3 (by omega)))⟩, by simp [intOf]; omega⟩
      rw [hST.out, show 64 * (r + 1) = 64 * r + 64 by omega]
      exact hA7.own
    · obtain rfl : r = m := by omega
      obtain ⟨A7, c7, rfl, hc7, _⟩ := own_form hown
      obtain ⟨q, hq⟩ : ∃ q, q = blocksL K c0 N r := ⟨_, rfl⟩
      rw [← hq] at hown
      have hr7 := Rd.of_own hown
      have hr3 := h3.rdAll hK
      have hr4 := h4.rd1 hN
      have q1 := h4.cell (i := 0) rfl
      have hst := fun w A c hc hr => stream_any K hK c0 N hN A (64 * r) c (List.replicate (64 * r) 0) (by omega) hc w hr
      rw [streamL_noughts, ← hq] at hst
      clear hq hown
      have hbW : Below w.heap.size w wr := hb.trans (hbw.mono (by omega))
      generalize wr = W0 at h3 h4 hr3 hr4 hr7 q1 hbW ⊢
      go_wp2_with fail
      refine wp_region_ssaL (by kernel_rfl) [IsV (.bool true), IsV (.bool true), IsV (.agg (u8s K).toArray), IsV (.pointer (some ⟨w.heap.size + 1, 0, none⟩)), IsV (.int .u32 (c0.toNat : Int)), IsV (.pointer (some ⟨w.heap.size + 1, 1, none⟩)), IsV (.agg (u8s N).toArray), IsV (.int .i64 (r : Nat)), IsV (.int .i64 ((64 * r : Nat) : Int)), RdV (64 * r) (List.replicate (64 * r) 0), RdV (64 * r) (q), IsV (.string ⟨(q).toArray⟩), IsV (.slice A7 (64 * r) c7), IsV (.string ⟨(q).toArray⟩), IsV (.bool true), IsV (.bool true), IsV (.bool true)] (by kernel_rfl) ?_ ?_ ?_
      · intro φ hφ v w1 w2 h hg
        simp only [List.mem_cons, List.not_mem_nil, or_false] at hφ
        rcases hφ with rfl | rfl | rfl | rfl | rfl | rfl | rfl | rfl | rfl | rfl | rfl | rfl | rfl | rfl | rfl | rfl | rfl
        all_goals first | exact h | exact RdV.gr h hg
      · refine ⟨?_, ?_, ?_, ?_, ?_, ?_, ?_, ?_, ?_, ?_, ?_, ?_, ?_, ?_, ?_, ?_, ?_, trivial⟩
        · intro a1 w1 hG hF
          exact s_call rfl (wants0 rfl) _ rfl _ _ (by simp only [execOp, resolve, invoke, List.map_toArray, List.map_nil]; go_simp) ((streams_any w1).mono fun e w2 ⟨he, hb⟩ => ⟨_, he, rfl, hb⟩)
        · intro a1 w1 hG hF
          exact s_same rfl (wants0 rfl) (.tmp 31) (.inr rfl) (hF.dp 0 31 (by kernel_rfl))
        · intro a1 w1 hG hF
          have e3 : a1.eval (.tmp 3) = .pointer (some ⟨w.heap.size, 0, none⟩) := hF.ol 3 (by kernel_rfl)
          exact s_wp rfl (wantsG hF 1 32 true rfl (by kernel_rfl) rfl) (wp_load_mid _ _ rfl w.heap.size 0 e3 (u8s K) _ (h3.gr ((Gr.drew W0).trans hG)).range Try.underlying22 rfl (info22 K hK) ⟨_, rfl, rfl, Gr.refl _⟩)
        · intro a1 w1 hG hF
          have e4 : a1.eval (.tmp 4) = .pointer (some ⟨w.heap.size + 1, 0, none⟩) := hF.ol 4 (by kernel_rfl)
          exact s_is rfl (wantsG hF 1 32 true rfl (by kernel_rfl) rfl) _ rfl (run_field (o := 0) (k := 0) Try.underlying34 rfl rfl (by kernel_rfl) e4)
        · intro a1 w1 hG hF
          obtain ⟨_, e34, rfl⟩ := hF.dp 3 34 (by kernel_rfl)
          exact s_is rfl (wantsG hF 1 32 true rfl (by kernel_rfl) rfl) _ rfl (run_load1 Try.underlying23 e34 ((h4.gr ((Gr.drew W0).trans hG)).cell (i := 0) rfl))
        · intro a1 w1 hG hF
          have e4 : a1.eval (.tmp 4) = .pointer (some ⟨w.heap.size + 1, 0, none⟩) := hF.ol 4 (by kernel_rfl)
          exact s_is rfl (wantsG hF 1 32 true rfl (by kernel_rfl) rfl) _ rfl (run_field (o := 1) (k := 11) Try.underlying34 rfl rfl (by kernel_rfl) e4)
        · intro a1 w1 hG hF
          obtain ⟨_, e36, rfl⟩ := hF.dp 5 36 (by kernel_rfl)
          exact s_wp rfl (wantsG hF 1 32 true rfl (by kernel_rfl) rfl) (wp_load_mid _ _ rfl (w.heap.size + 1) 1 e36 (u8s N) _ (h4.gr ((Gr.drew W0).trans hG)).range1 Try.underlying24 rfl (info24 N hN) ⟨_, rfl, rfl, Gr.refl _⟩)
        · intro a1 w1 hG hF
          exact s_old rfl (wantsG hF 1 32 true rfl (by kernel_rfl) rfl) (.tmp 2) (.inr rfl) (.int .i64 (r : Nat)) (hF.ol 2 (by kernel_rfl)) rfl
        · intro a1 w1 hG hF
          obtain ⟨_, e38, rfl⟩ := hF.dp 7 38 (by kernel_rfl)
          exact s_is rfl (wantsG hF 1 32 true rfl (by kernel_rfl) rfl) _ rfl (by simp only [execOp, e38]; go_simp; exact IntWalk.i64_in _ (by omega))
        · intro a1 w1 hG hF
          obtain ⟨_, e39, rfl⟩ := hF.dp 8 39 (by kernel_rfl)
          exact s_make rfl (wantsG hF 1 32 true rfl (by kernel_rfl) rfl) rfl Try.underlying28 hi0 hz0 hz1 hz2 (64 * r) (by omega) e39 e39 rfl
        · intro a1 w1 hG hF
          obtain ⟨_, e33, rfl⟩ := hF.dp 2 33 (by kernel_rfl)
          obtain ⟨_, e35, rfl⟩ := hF.dp 4 35 (by kernel_rfl)
          obtain ⟨_, e37, rfl⟩ := hF.dp 6 37 (by kernel_rfl)
          obtain ⟨_, e40, A40, c40, rfl, hc40, r40⟩ := hF.dp 9 40 (by kernel_rfl)
          exact s_call rfl (wantsG hF 1 32 true rfl (by kernel_rfl) rfl) _ rfl _ _ (by simp only [execOp, resolve, invoke, List.map_toArray, List.map_cons, List.map_nil, e33, e35, e37, e40]; go_simp) ((hst w1 _ _ hc40 r40).mono fun e w2 ⟨v, he, ho, hb⟩ => ⟨_, he, RdV.own ho, hb⟩)
        · intro a1 w1 hG hF
          obtain ⟨_, e41, A41, c41, rfl, hc41, r41⟩ := hF.dp 10 41 (by kernel_rfl)
          exact s_str rfl (wantsG hF 1 32 true rfl (by kernel_rfl) rfl) _ _ _ (.tmp 41) rfl Try.underlying28 Try.underlying5 Try.underlying9 _ _ _ _ e41 r41 rfl
        · intro a1 w1 hG hF
          exact s_old rfl (wantsG hF 1 32 true rfl (by kernel_rfl) rfl) (.tmp 7) (.inr rfl) (.slice A7 (64 * r) c7) (hF.ol 7 (by kernel_rfl)) rfl
        · intro a1 w1 hG hF
          obtain ⟨_, e43, rfl⟩ := hF.dp 12 43 (by kernel_rfl)
          exact s_str rfl (wantsG hF 1 32 true rfl (by kernel_rfl) rfl) _ _ _ (.tmp 43) rfl Try.underlying28 Try.underlying5 Try.underlying9 _ _ _ _ e43 (Gr.rd ((Gr.drew W0).trans hG) hr7) rfl
        · intro a1 w1 hG hF
          obtain ⟨_, e42, rfl⟩ := hF.dp 11 42 (by kernel_rfl)
          obtain ⟨_, e44, rfl⟩ := hF.dp 13 44 (by kernel_rfl)
          exact s_is rfl (wantsG hF 1 32 true rfl (by kernel_rfl) rfl) _ rfl (by simp only [execOp, e42, e44]; go_simp)
        · intro a1 w1 hG hF
          obtain ⟨_, e32, rfl⟩ := hF.dp 1 32 (by kernel_rfl)
          obtain ⟨_, e45, rfl⟩ := hF.dp 14 45 (by kernel_rfl)
          exact s_pick rfl (wants0 rfl) (.tmp 32) (.tmp 45) _ rfl e32 _ e45 rfl
        · intro a1 w1 hG hF
          exact s_same rfl (wants0 rfl) (.tmp 46) (.inl rfl) (hF.dp 15 46 (by kernel_rfl))
      · intro vs w1 hG hf
        have z6 : vs 16 = .bool true := hf.2.2.2.2.2.2.2.2.2.2.2.2.2.2.2.2.1
        clear hf
        simp only [putAll, Nat.zero_add, Nat.reduceAdd, z6]
        clear z6
        go_simp
        go_wp2_with fail
        go_ret
        exact ⟨rfl, hbW.trans (((Gr.drew W0).trans hG).mono hbW.size)⟩
end Go.Proofs.Ytnjnhnhbeoegaaa

