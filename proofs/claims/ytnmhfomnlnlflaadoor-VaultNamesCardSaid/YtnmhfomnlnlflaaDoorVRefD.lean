/- The walk of the reference's Seal: it seals. No condition. -/
import Derived.Test.YtnmhfomnlnlflaaDoorVRefC
namespace Go.Proofs.YtnmhfomnlnlflaaDoor
open Go.RowKit
@[go_sem] theorem run_buildSealed (a b c : Int) (x y z : ByteArray) (w : World) : (Instr.build 78 #[(0, .int .i64 a), (1, .int .i64 b), (2, .int .i64 c), (3, .string x), (4, .string y), (5, .string z)]).run Tryd.prog w = .ok (.agg #[.int .i64 a, .int .i64 b, .int .i64 c, .string x, .string y, .string z]) w := run_build w 78 _ _ (by kernel_rfl)
theorem cells_new6 (w : World) (t : TypeId) (C : List Value) : ∀ j u, C[j]? = some u → (w.alloc (.cells C.toArray t)).cell? ((⟨w.heap.size, 0, none⟩ : Addr).add j) = some u := by
  intro j u h
  rw [add_row, Nat.zero_add]
  have hA : Arr (w.alloc (.cells C.toArray t)) w.heap.size t C := Arr.newAt rfl rfl
  exact hA.cell h
theorem sealed_mem {L : List Sealing} {j : Nat} {x : Sealing} (h : L[j]? = some x) : x ∈ L := List.mem_of_getElem? h
set_option maxRecDepth 100000 in
set_option maxHeartbeats 32000000 in
theorem docSeal_free {B : Nat} {w : World} {g : Nat} {v : Vt} (hR : RIs B w g v) (e c k : Nat) (wi b : List UInt8) (hr : Right e c k) (hL : v.L.length ≤ 1000) (hs : ¬ v.spent c k) (hw : wi.length ≤ 900) (hb : b.length ≤ 900) (hB : B ≤ w.heap.size) :
    Calls Tryd.prog 29 #[.pointer (some ⟨g, 0, none⟩), .int .i64 (e : Int), .int .i64 (c : Int), .int .i64 (k : Int), .string ⟨wi.toArray⟩, .string ⟨b.toArray⟩] w fun r w' => r = .returned (.tuple #[.string ⟨(v.out e c k wi b).toArray⟩, .int .i64 0]) ∧ RIs B w' g (v.put e c k wi b) ∧ Tn refT B w w' := by
  have HN := Lib.hid (rright_yes (e : Int) (c : Int) (k : Int) hr)
  obtain ⟨i0, hi0, hz0, hz1, hz2⟩ := info_parts (P := Tryd.prog) (e := 78) (z := .agg #[.int .i64 0, .int .i64 0, .int .i64 0, .string ⟨#[]⟩, .string ⟨#[]⟩, .string ⟨#[]⟩]) (size := 6) (bytes := 72) (by kernel_rfl)
  have hKl := hR.len
  obtain ⟨_, he2, _, hc2, _, hk2⟩ := hr
  obtain ⟨O, hO⟩ : ∃ s : ByteArray, s = ⟨(v.out e c k wi b).toArray⟩ := ⟨_, rfl⟩
  obtain ⟨xw, hxw⟩ : ∃ s : ByteArray, s = ⟨wi.toArray⟩ := ⟨_, rfl⟩
  obtain ⟨xb, hxb⟩ : ∃ s : ByteArray, s = ⟨b.toArray⟩ := ⟨_, rfl⟩
  have hbs : xb.size = b.length := by rw [hxb]; rfl
  obtain ⟨kk, hkk⟩ : ∃ s : ByteArray, s = ⟨v.key.toArray⟩ := ⟨_, rfl⟩
  obtain ⟨sk, hsk⟩ : ∃ s : ByteArray, s = ⟨(sealKL v.key e).toArray⟩ := ⟨_, rfl⟩
  obtain ⟨sn, hsn⟩ : ∃ s : ByteArray, s = ⟨(nonceL c k).toArray⟩ := ⟨_, rfl⟩
  have HD : Hid (v.ideal = true → ∀ (n m : Nat) w, n = v.L.length + 1 → m = b.length + 16 → Calls Tryd.prog 41 #[.string kk, .int .i64 1, .int .i64 (n : Int), .int .i64 (m : Int)] w fun r w' => r = .returned (.string O) ∧ Gr w w') := by
    intro hi n m w hn hm
    rw [hkk, hO, Vt.out, hi, hn, hm]
    exact rdraw_any v.key hKl 1 (v.L.length + 1) (b.length + 16) (by omega) (by omega) (by omega) (by omega) w
  have HK : Hid (∀ w, Calls Tryd.prog 44 #[.string kk, .int .i64 (e : Int)] w fun r w' => r = .returned (.string sk) ∧ Below w.heap.size w w') := by
    intro w
    rw [hkk, hsk]
    exact refSealK_any v.key hKl e (by omega) w
  have HC : Hid (∀ w, Calls Tryd.prog 45 #[.int .i64 (c : Int), .int .i64 (k : Int)] w fun r w' => r = .returned (.string sn) ∧ Below w.heap.size w w') := by
    intro w
    rw [hsn]
    exact refNonce_any c k (by omega) (by omega) w
  have HS : Hid (v.ideal = false → ∀ w, Calls Tryd.prog 43 #[.string sk, .string sn, .string xw, .string xb] w fun r w' => r = .returned (.string O) ∧ Below w.heap.size w w') := by
    intro hi w
    rw [hsk, hsn, hxw, hxb, hO, Vt.out, hi]
    exact rSeal_any _ (by simp) _ (by simp) wi b (by omega) (by omega) w
  have HP : Hid (∀ w' A cA D m, Arr w' g 48 [.bool v.ideal, .string kk, .slice A v.names.length cA, .slice D (v.L.length + 1) m] → w'.ownsRow B 9 1 (.slice A v.names.length cA) v.names.length (v.names.map strV) →
      w'.ownsRow B 78 6 (.slice D (v.L.length + 1) m) (v.L.length + 1) (v.L.flatMap sealC ++ [.int .i64 (e : Int), .int .i64 (c : Int), .int .i64 (k : Int), .string xw, .string xb, .string O]) → RIs B w' g (v.put e c k wi b)) := by
    intro w' A cA D m h1 h2 h3
    have hl : (v.put e c k wi b).L.length = v.L.length + 1 := by simp [Vt.put]
    have hf : (v.put e c k wi b).L.flatMap sealC = v.L.flatMap sealC ++ [.int .i64 (e : Int), .int .i64 (c : Int), .int .i64 (k : Int), .string xw, .string xb, .string O] := by
      rw [hxw, hxb, hO]; simp [Vt.put, sealC, strV]
    refine ⟨hR.lo, hKl, A, cA, D, m, ?_, h2, ?_⟩
    · rw [hl]
      rw [hkk] at h1
      exact h1
    · rw [hl, hf]; exact h3
  obtain ⟨A, cA, D, cD, a1, a2, a3⟩ := hR.mem
  have hBg := hR.lo
  rw [show strV v.key = .string kk by rw [hkk]; rfl] at a1
  obtain ⟨len, hlen⟩ : ∃ n, n = v.L.length := ⟨_, rfl⟩
  rw [← hlen] at a1 a3 HP
  have c0 : w.cell? ⟨g, 0, none⟩ = some (.bool v.ideal) := a1.cell rfl
  have c1 : w.cell? ⟨g, 1, none⟩ = some (.string kk) := a1.cell rfl
  have c3 : w.cell? ⟨g, 3, none⟩ = some (.slice D len cD) := a1.cell rfl
  have hlb : len ≤ 1000 := by omega
  have HLN := Lib.hid hlen
  have HO := Lib.hid hO
  rw [← hO, ← hxw, ← hxb]
  have hno : ∀ (j : Nat) x, v.L[j]? = some x → ¬ (x.client = c ∧ x.counter = k) := fun j x hx h => hs ⟨x, sealed_mem hx, h⟩
  have HNO := Lib.hid hno
  clear hlen hR hL hs hO hxw hxb hkk hsk hsn hno he2 hc2 hk2
  go_enter Tryd.func29, Tryd.ntmps29
  go_wp2_with fail
  refine (HN.out w).mono ?_
  rintro r _ ⟨rfl, rfl⟩
  go_wp2_with fail
  go_simp
  go_loopw [14] (fun i wr => ∃ j : Nat, j ≤ len ∧ i = .int .i64 j ∧ Gr w wr)
    (fun i _ => len - (intOf i).toNat)
  case atStart => exact ⟨0, Nat.zero_le _, rfl, Gr.refl _⟩
  case round =>
    obtain ⟨j, hjl, rfl, hG⟩ := hrel
    have c0r := hG.cell c0
    have c1r := hG.cell c1
    have c3r := hG.cell c3
    have a1r := a1.gr hG
    have a2r := Gr.own hG a2
    have a3r := Gr.own hG a3
    by_cases hlt : j < len
    · obtain ⟨x, hx⟩ : ∃ x, v.L[j]? = some x := ⟨v.L[j]'(by have := HLN.out; omega), List.getElem?_eq_getElem (by have := HLN.out; omega)⟩
      obtain ⟨gN, rfl, hc⟩ := own_at6 a3r hlt
      have q1 : wr.cell? ⟨gN, j * 6 + 1, none⟩ = some (.int .i64 (x.client : Int)) := by rw [Nat.mul_comm]; exact hc 1 _ (by rw [flat6 _ j x hx 1 (by omega)]; rfl)
      have q2 : wr.cell? ⟨gN, j * 6 + 2, none⟩ = some (.int .i64 (x.counter : Int)) := by rw [Nat.mul_comm]; exact hc 2 _ (by rw [flat6 _ j x hx 2 (by omega)]; rfl)
      have hlti : (j : Int) < (len : Int) := by omega
      have HXE : Hid (¬ (x.client = c ∧ x.counter = k)) := HNO.out j x hx
      clear hx hc a1r a2r a3r
      by_cases h1 : x.client = c
      · have p1 : ((x.client : Int) == (c : Int)) = true := by rw [h1]; exact beq_self_eq_true _
        have p2 : ((x.counter : Int) == (k : Int)) = false := by
          have := HXE.out
          simp only [beq_eq_false_iff_ne, ne_eq]
          omega
        clear h1
        go_wp2_with fail
        go_roundw
        case rel => exact ⟨j + 1, by omega, by go_num, hG⟩
        case measure => simp [intOf]; omega
      · have p1 : ((x.client : Int) == (c : Int)) = false := by
          simp only [beq_eq_false_iff_ne, ne_eq]
          omega
        clear h1
        go_wp2_with fail
        go_roundw
        case rel => exact ⟨j + 1, by omega, by go_num, hG⟩
        case measure => simp [intOf]; omega
    · have hlt2 : ¬ (j : Int) < (len : Int) := by omega
      clear a1 a2 a3 c0 c1 c3
      by_cases hi : v.ideal = true
      · have HDi := Lib.hid (HD.out hi)
        rw [hi] at c0r
        go_upto_region 10 with fail
        have hG0 := hG
        clear hi HD HS
        refine wp_region_ssaL (by kernel_rfl) [IsV (.pointer (some ⟨g, 0, none⟩)), IsV (.pointer (some ⟨g, 0, none⟩)), IsV (.pointer (some ⟨g, 1, none⟩)), IsV (.string kk), IsV (.pointer (some ⟨g, 0, none⟩)), IsV (.pointer (some ⟨g, 0, none⟩)), IsV (.pointer (some ⟨g, 3, none⟩)), IsV (.slice D len cD), IsV (.int .i64 ((len : Nat) : Int)), IsV (.int .i64 ((len + 1 : Nat) : Int)), IsV (.string xb), IsV (.int .i64 ((b.length : Nat) : Int)), IsV (.int .i64 ((b.length + 16 : Nat) : Int)), IsV (.string O), IsV (.string O)] (by kernel_rfl) ?_ ?_ ?_
        · intro φ hφ v w1 w2 h hg
          simp only [List.mem_cons, List.not_mem_nil, or_false] at hφ
          rcases hφ with rfl | rfl | rfl | rfl | rfl | rfl | rfl | rfl | rfl | rfl | rfl | rfl | rfl | rfl | rfl
          all_goals first | exact h | exact RdV.gr h hg
        · refine ⟨?_, ?_, ?_, ?_, ?_, ?_, ?_, ?_, ?_, ?_, ?_, ?_, ?_, ?_, ?_, trivial⟩
          · intro a1 w1 hG hF
            exact s_old rfl (wants0 rfl) (.tmp 0) (.inr rfl) (.pointer (some ⟨g, 0, none⟩)) (hF.ol 0 (by kernel_rfl)) rfl
          · intro a1 w1 hG hF
            obtain ⟨_, e56, rfl⟩ := hF.dp 0 56 (by kernel_rfl)
            exact s_is rfl (wants0 rfl) _ rfl (run_nil e56)
          · intro a1 w1 hG hF
            obtain ⟨_, e57, rfl⟩ := hF.dp 1 57 (by kernel_rfl)
            exact s_is rfl (wants0 rfl) _ rfl (run_field (o := 1) (k := 0) Tryd.underlying48 rfl rfl (by kernel_rfl) e57)
          · intro a1 w1 hG hF
            obtain ⟨_, e58, rfl⟩ := hF.dp 2 58 (by kernel_rfl)
            exact s_is rfl (wants0 rfl) _ rfl (run_load1B (.inr (.inr (.inl Tryd.underlying9))) e58 (Gr.cell ((Gr.drew wr).trans hG) c1r))
          · intro a1 w1 hG hF
            exact s_old rfl (wants0 rfl) (.tmp 0) (.inr rfl) (.pointer (some ⟨g, 0, none⟩)) (hF.ol 0 (by kernel_rfl)) rfl
          · intro a1 w1 hG hF
            obtain ⟨_, e60, rfl⟩ := hF.dp 4 60 (by kernel_rfl)
            exact s_is rfl (wants0 rfl) _ rfl (run_nil e60)
          · intro a1 w1 hG hF
            obtain ⟨_, e61, rfl⟩ := hF.dp 5 61 (by kernel_rfl)
            exact s_is rfl (wants0 rfl) _ rfl (run_field (o := 3) (k := 0) Tryd.underlying48 rfl rfl (by kernel_rfl) e61)
          · intro a1 w1 hG hF
            obtain ⟨_, e62, rfl⟩ := hF.dp 6 62 (by kernel_rfl)
            exact s_is rfl (wants0 rfl) _ rfl (run_load1B (.inr (.inr (.inr (.inl ⟨_, Tryd.underlying46⟩)))) e62 (Gr.cell ((Gr.drew wr).trans hG) c3r))
          · intro a1 w1 hG hF
            obtain ⟨_, e63, rfl⟩ := hF.dp 7 63 (by kernel_rfl)
            exact s_is rfl (wants0 rfl) _ rfl (run_len_slice Tryd.underlying46 e63)
          · intro a1 w1 hG hF
            obtain ⟨_, e64, rfl⟩ := hF.dp 8 64 (by kernel_rfl)
            exact s_is rfl (wants0 rfl) _ rfl (run_addN (a := len) (b := 1) e64 rfl (by omega))
          · intro a1 w1 hG hF
            exact s_old rfl (wants0 rfl) (.tmp 5) (.inr rfl) (.string xb) (hF.ol 5 (by kernel_rfl)) rfl
          · intro a1 w1 hG hF
            obtain ⟨_, e66, rfl⟩ := hF.dp 10 66 (by kernel_rfl)
            exact s_is rfl (wants0 rfl) _ rfl (run_lenStr e66 hbs Tryd.underlying9)
          · intro a1 w1 hG hF
            obtain ⟨_, e67, rfl⟩ := hF.dp 11 67 (by kernel_rfl)
            exact s_is rfl (wants0 rfl) _ rfl (run_addN (a := b.length) (b := 16) e67 rfl (by omega))
          · intro a1 w1 hG hF
            obtain ⟨_, e59, rfl⟩ := hF.dp 3 59 (by kernel_rfl)
            obtain ⟨_, e65, rfl⟩ := hF.dp 9 65 (by kernel_rfl)
            obtain ⟨_, e68, rfl⟩ := hF.dp 12 68 (by kernel_rfl)
            exact s_call rfl (wants0 rfl) _ rfl _ _ (by simp only [execOp, resolve, invoke, List.map_toArray, List.map_cons, List.map_nil, e59, e65, e68]; go_simp) ((HDi.out (len + 1) (b.length + 16) w1 (by rw [HLN.out]) rfl).mono fun e w2 ⟨he, hb⟩ => ⟨_, he, rfl, hb⟩)
          · intro a1 w1 hG hF
            exact s_same rfl (wants0 rfl) (.tmp 69) (.inl rfl) (hF.dp 13 69 (by kernel_rfl))
        · intro vs w1 hG hf
          have z15 : vs 14 = .string O := hf.2.2.2.2.2.2.2.2.2.2.2.2.2.2.1
          clear hf
          simp only [putAll, Nat.zero_add, Nat.reduceAdd, z15]
          have hG3 : Gr wr w1 := (Gr.drew _).trans hG
          replace hG := hG0
          obtain ⟨wq, hwq⟩ : ∃ q, q = w1 := ⟨_, rfl⟩
          rw [← hwq] at hG3 ⊢
          clear hwq
          go_simp
          have hGq := hG.trans hG3
          have c3q := hG3.cell c3r
          have G1 := Gr.alloc wq (.cells [Value.int .i64 (e : Int), .int .i64 (c : Int), .int .i64 (k : Int), .string xw, .string xb, .string O].toArray 78)
          have a1n := (a1r.gr hG3).gr G1
          have a2n := Gr.own G1 (Gr.own hG3 a2r)
          have a3n := Gr.own G1 (Gr.own hG3 a3r)
          have hBr : B ≤ (wq.alloc (.cells [Value.int .i64 (e : Int), .int .i64 (c : Int), .int .i64 (k : Int), .string xw, .string xb, .string O].toArray 78)).heap.size := by have := hGq.size; simp; omega
          have hcn := cells_new6 wq 78 [Value.int .i64 (e : Int), .int .i64 (c : Int), .int .i64 (k : Int), .string xw, .string xb, .string O]
          have h63 : len + 1 ≤ maxLen := by unfold maxLen; omega
          obtain ⟨hl1, hl2⟩ : (∀ u ∈ [Value.int .i64 (e : Int), .int .i64 (c : Int), .int .i64 (k : Int), .string xw, .string xb, .string O], u.oneCell' = true) ∧ (len + 1) * 72 ≤ 140737488355328 := ⟨by simp [Value.oneCell'], by omega⟩
          go_wp2_with (at_builtin; go_must (refine wpList_appT rfl (.tmp 86) (.tmp 94) 46 rfl B 78 i0 (.agg #[.int .i64 0, .int .i64 0, .int .i64 0, .string ⟨#[]⟩, .string ⟨#[]⟩, .string ⟨#[]⟩]) 6 72 Tryd.underlying46 hi0 hz0 hz1 hz2 rfl (by omega) rfl a3n ⟨wq.heap.size, 0, none⟩ 1 1 _ rfl rfl hcn hl1 h63 hl2 hBr ?_; intro D2 d2 w5 hO3 hg3 hT3; have hTa := hT3 (fun _ o => match o with | .cells _ t _ => t == 78 | _ => false) (fun _ _ _ => rfl); have hTr := hT3 refT (fun _ _ _ => rfl); have hA5 := a1n.tn hTa (fun C f => rfl); have d3 : w5.cell? ⟨g, 3, none⟩ = some (.slice D len cD) := hA5.cell rfl; have f3 : w5.frozen? ⟨g, 3, none⟩ = false := hA5.frozen 3; clear hT3))
          refine bodyPost_ret (results_tmp2 rfl _ _ _) rfl ?_
          refine ⟨rfl, HP.out _ A cA D2 d2 (hA5.set 3 _) (own_tn (own_tn a2n hTa (fun _ _ _ => rfl)) (Tn.cell (τ := fun _ o => match o with | .cells _ t _ => t == 48 | _ => false) (B := B) hA5 hBg (fun _ _ => rfl) 3 _) (fun _ _ _ => rfl)) (own_tn hO3 (Tn.cell (τ := fun _ o => match o with | .cells _ t _ => t == 48 | _ => false) (B := B) hA5 hBg (fun _ _ => rfl) 3 _) (fun _ _ _ => rfl)), (Tn.of_gr (hGq.trans G1)).trans (hTr.trans (Tn.cell hA5 hBg (fun _ _ => rfl) 3 _))⟩
      · have hi : v.ideal = false := by simpa using hi
        have HSi := Lib.hid (HS.out hi)
        rw [hi] at c0r
        clear hi HD HS
        go_wp2_with fail
        refine (HK.out _).mono ?_
        rintro r w1 ⟨rfl, hB1⟩
        go_wp2_with fail
        refine (HC.out _).mono ?_
        rintro r w2 ⟨rfl, hB2⟩
        go_wp2_with fail
        refine (HSi.out _).mono ?_
        rintro r w3 ⟨rfl, hB3⟩
        have hG3 : Gr wr w3 := (Gr.trans hB1 hB2).trans hB3
        obtain ⟨wq, hwq⟩ : ∃ q, q = w3 := ⟨_, rfl⟩
        rw [← hwq] at hG3 ⊢
        clear hwq
        have hGq := hG.trans hG3
        have c3q := hG3.cell c3r
        have G1 := Gr.alloc wq (.cells [Value.int .i64 (e : Int), .int .i64 (c : Int), .int .i64 (k : Int), .string xw, .string xb, .string O].toArray 78)
        have a1n := (a1r.gr hG3).gr G1
        have a2n := Gr.own G1 (Gr.own hG3 a2r)
        have a3n := Gr.own G1 (Gr.own hG3 a3r)
        have hBr : B ≤ (wq.alloc (.cells [Value.int .i64 (e : Int), .int .i64 (c : Int), .int .i64 (k : Int), .string xw, .string xb, .string O].toArray 78)).heap.size := by have := hGq.size; simp; omega
        have hcn := cells_new6 wq 78 [Value.int .i64 (e : Int), .int .i64 (c : Int), .int .i64 (k : Int), .string xw, .string xb, .string O]
        have h63 : len + 1 ≤ maxLen := by unfold maxLen; omega
        obtain ⟨hl1, hl2⟩ : (∀ u ∈ [Value.int .i64 (e : Int), .int .i64 (c : Int), .int .i64 (k : Int), .string xw, .string xb, .string O], u.oneCell' = true) ∧ (len + 1) * 72 ≤ 140737488355328 := ⟨by simp [Value.oneCell'], by omega⟩
        go_wp2_with (at_builtin; go_must (refine wpList_appT rfl (.tmp 86) (.tmp 94) 46 rfl B 78 i0 (.agg #[.int .i64 0, .int .i64 0, .int .i64 0, .string ⟨#[]⟩, .string ⟨#[]⟩, .string ⟨#[]⟩]) 6 72 Tryd.underlying46 hi0 hz0 hz1 hz2 rfl (by omega) rfl a3n ⟨wq.heap.size, 0, none⟩ 1 1 _ rfl rfl hcn hl1 h63 hl2 hBr ?_; intro D2 d2 w5 hO3 hg3 hT3; have hTa := hT3 (fun _ o => match o with | .cells _ t _ => t == 78 | _ => false) (fun _ _ _ => rfl); have hTr := hT3 refT (fun _ _ _ => rfl); have hA5 := a1n.tn hTa (fun C f => rfl); have d3 : w5.cell? ⟨g, 3, none⟩ = some (.slice D len cD) := hA5.cell rfl; have f3 : w5.frozen? ⟨g, 3, none⟩ = false := hA5.frozen 3; clear hT3))
        refine bodyPost_ret (results_tmp2 rfl _ _ _) rfl ?_
        refine ⟨rfl, HP.out _ A cA D2 d2 (hA5.set 3 _) (own_tn (own_tn a2n hTa (fun _ _ _ => rfl)) (Tn.cell (τ := fun _ o => match o with | .cells _ t _ => t == 48 | _ => false) (B := B) hA5 hBg (fun _ _ => rfl) 3 _) (fun _ _ _ => rfl)) (own_tn hO3 (Tn.cell (τ := fun _ o => match o with | .cells _ t _ => t == 48 | _ => false) (B := B) hA5 hBg (fun _ _ => rfl) 3 _) (fun _ _ _ => rfl)), (Tn.of_gr (hGq.trans G1)).trans (hTr.trans (Tn.cell hA5 hBg (fun _ _ => rfl) 3 _))⟩
end Go.Proofs.YtnmhfomnlnlflaaDoor

