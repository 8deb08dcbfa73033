/- The walk of the law Sha2Parts. No condition. -/
import Derived.Test.YtkhbnandmhlnoaaDoorSLens
namespace Go.Proofs.YtkhbnandmhlnoaaDoor
open Go.RowKit
/-- Cut so far: the parts, what is left; all of it lies in the text that came in. -/
def CutR (w : World) (l : List UInt8) (n2 : Nat) (v r i : Value) (wr : World) : Prop :=
  ∃ (k : Nat) (Ap : Option Addr) (cp : Nat) (qs : List Part) (s : Part), k ≤ n2 ∧ k ≤ 6 ∧ i = .int .i64 (k : Int) ∧ v = .slice Ap k cp ∧ r = s.val ∧
    wr.ownsRow w.heap.size 28 1 (.slice Ap k cp) k (qs.map Part.val) ∧ (∀ p ∈ qs, Rd w p.A p.n (u8s p.l) ∧ p.n ≤ p.c) ∧ (Rd w s.A s.n (u8s s.l) ∧ s.n ≤ s.c) ∧ allP qs ++ s.l = l ∧ Below w.heap.size w wr
theorem eqA32 (D : List UInt8) (hD : D.length = 32) (w : World) : (Op.equalIn 10000 25 (.agg (u8s D).toArray) (.agg (u8s D).toArray)).run Tryd.prog w = .ok true w := by
  have h3 : (Op.equalIn 10000 25 (.agg (u8s D).toArray) (.agg (u8s D).toArray)).run Tryd.prog w = .ok (D == D) w := run_equalIn_bytes (P := Tryd.prog) w 9998 25 5 32 Tryd.underlying25 Tryd.underlying5 (fun w => by kernel_rfl) D D hD hD
  rwa [beq_self_eq_true] at h3
/-- 'append' of one slice in a block of its own, under a guard that says yes. -/
theorem wpList_appW1 {P : Program} (w : World) {ops : Array Oper} {rest : List Oper} {o : Oper} {a : Act} {Q : Exit → Act → World → Prop} (hw : Region.wanted o (yielded ops a.tmps) = true) (s x : Operand) (t : TypeId)
    (ho : o.op = .call { callee := .builtin .append, args := #[s, x], argTypes := #[t, t] })
    (base : Nat) (e : TypeId) (i : TypeInfo) (z : Value) (bytes : Nat) (ht : P.underlying t = some (.slice e)) (hi : P.info? e = some i) (hz : i.zero = some z)
    (hsize : i.size = 1) (hby : i.bytes = bytes) (hzs : z.cells.size = 1)
    (v : Value) (n : Nat) (xs : List Value) (hs : a.eval s = v) (hown : w.ownsRow base e 1 v n xs)
    (y u : Value) (hx : a.eval x = .slice (some ⟨w.heap.size, 0, none⟩) 1 1) (hy : y = u) (h1 : u.oneCell' = true)
    (hbytes : (n + 1) * bytes ≤ 140737488355328) (h63 : n + 1 ≤ maxLen) (hbase : base ≤ w.heap.size)
    (h : ∀ v' w', Apped base e w w' v v' (n + 1) (xs ++ [u]) → wpList P ops Q rest (a.put o.dst v') w') : wpList P ops Q (o :: rest) a (w.alloc (.cells #[y] e)) := by
  subst hy
  refine wpList_step fun K hK => ?_
  rw [if_pos hw]
  refine wp_app (w.alloc (.cells #[y] e)) s x t ho base e i z bytes ht hi hz hsize hby hzs v n xs hs (hown.alloc _) _ 1 1 [y] hx
    ⟨rfl, fun j u hj => ⟨_, rfl, cell_one_new w y e j u hj⟩⟩ (by simpa using h1) hbytes h63 (by simp; omega) fun v' w' hA => hK _ _ (h v' w' ⟨hA.own, ?_, ?_⟩)
  · have h2 := hA.grown
    exact ⟨h2.os, h2.tape, h2.output, by have := h2.size; simp at this; omega, fun k hk hne => (h2.block k (by simp; omega) hne).trans (Below.heap_alloc w _ k hk)⟩
  · rcases hA.lies with e1 | ⟨g, e1, hg⟩
    · exact .inl e1
    · exact .inr ⟨g, e1, by simp at hg; omega⟩
set_option maxRecDepth 100000 in
set_option maxHeartbeats 8000000 in
theorem law_parts (A : Option Addr) (n c : Nat) (l0 : List UInt8) (B : Option Addr) (n2 c2 : Nat) (zs : List Int) (w : World) (hnc : n ≤ c) (hcm : c ≤ maxLen) (hr0 : Rd w A n (u8s l0)) (hz : Rd w B n2 (zs.map (Value.int .i64))) (gw : Glob w) :
    Calls Tryd.prog 5 #[.slice A n c, .slice B n2 c2] w fun e w' => e = .returned (.bool true) ∧ Below w.heap.size w w' := by
  obtain ⟨i1, hi1, hy0, hy1, hy2⟩ := info_parts infoRow
  unfold maxLen at hcm
  obtain ⟨m, hm⟩ : ∃ m : Nat, m = min n 300 := ⟨_, rfl⟩
  have hk : min (n : Int) 300 = (m : Int) := by omega
  have hmn : m ≤ n := by omega
  have hm3 : m ≤ 300 := by omega
  have hrm : Rd w A m (u8s (l0.take m)) := by rw [← u8s_take]; exact hr0.take hmn
  obtain ⟨l, hl⟩ : ∃ l, l = l0.take m := ⟨_, rfl⟩
  rw [← hl] at hrm
  have hlm : l.length = m := by simpa using hrm.1
  have hcut := fun w1 => run_cut_h (P := Tryd.prog) Tryd.underlying28 (by kernel_rfl) (A := A) (n := n) (c := c) (hi := m) (h := (m : Int)) rfl (by omega) w1
  clear hm hl hr0
  go_enter Tryd.func5, Tryd.ntmps5
  go_wp2_with fail
  clear hcut hk
  go_loopw [5, 6, 7] (fun v r i wr => CutR w l n2 v r i wr) (fun _ _ i _ => n2 - (intOf i).toNat)
  case atStart => exact ⟨0, none, 0, [], ⟨A, m, c, l⟩, by omega, by omega, rfl, rfl, rfl, World.ownsRow_nil _ _ _ _, by simp, ⟨hrm, by show m ≤ c; omega⟩, by simp [allP], Below.refl _ _⟩
  case round =>
    obtain ⟨k, Ap, cp, qs, s, hkn, hk6, rfl, rfl, rfl, hown, hqs, hs, hall, hB⟩ := hrel
    obtain ⟨sA, sn, sc, sl⟩ := s
    simp only [Part.val] at *
    have hbs := hB.size
    have hsl : sl.length = sn := by simpa using hs.1.1
    have hsn : sn ≤ 300 := by
      have := congrArg List.length hall
      rw [List.length_append] at this
      omega
    by_cases hlt : k < n2 ∧ k < 6
    · obtain ⟨hlt1, hlt2⟩ := hlt
      obtain ⟨z, hzk⟩ : ∃ z, zs[k]? = some z := ⟨_, List.getElem?_eq_getElem (by have := hz.1; simp at this; omega)⟩
      obtain ⟨ad, rfl, hc⟩ := (hz.below hB).2 k (.int .i64 z) (by simp [hzk])
      clear hzk
      obtain ⟨j, hj, hje⟩ := wrap_remN z (sn + 1) (by omega) (by omega)
      rw [show ((sn + 1 : Nat) : Int) = (sn : Int) + 1 from rfl] at hje
      go_upto_region 8 with fail
      simp only [hje]
      have hc1 := fun w1 => run_cut_h (P := Tryd.prog) Tryd.underlying28 (by kernel_rfl) (A := sA) (n := sn) (c := sc) (hi := j) (h := (j : Int)) rfl (by omega) w1
      have hc2 := fun w1 => run_cut_l (P := Tryd.prog) Tryd.underlying28 (by kernel_rfl) (A := sA) (n := sn) (c := sc) (lo := j) (l := (j : Int)) rfl (by omega) w1
      have HH : Hid (allP (qs ++ [⟨sA, j, sc, sl.take j⟩]) ++ sl.drop j = l) := by
        show _ = _
        rw [← hall]
        simp [allP]
      have r1 : Rd w sA j (u8s (sl.take j)) := by rw [← u8s_take]; exact hs.1.take (by omega)
      have r2 : Rd w (cutA sA sc j) (sn - j) (u8s (sl.drop j)) := by rw [← u8s_drop]; exact hs.1.cutL (by omega) hs.2
      have HQ := Lib.hid hqs
      have HS2 := Lib.hid hs.2
      clear hje hc hall hqs hs
      go_wp2_with (at_builtin; go_must (refine wpList_app1 wr rfl (.tmp 36) (.tmp 40) 22 rfl w.heap.size 28 i1 (.slice none 0 0) 24 Tryd.underlying22 hi1 hy0 hy1 hy2 rfl (.slice Ap k cp) k _ rfl hown _ (.slice sA j sc) rfl rfl rfl (by omega) (by unfold maxLen; omega) hbs ?_))
      intro v' w1 hA
      obtain ⟨A3, c3, rfl, _, _⟩ := own_form hA.own
      have ho := hA.own
      have hB1 := hB.trans (hA.below hown hbs)
      clear hA hown hB
      go_simp
      go_wp2_with fail
      refine ⟨⟨k + 1, A3, c3, qs ++ [⟨sA, j, sc, sl.take j⟩], ⟨cutA sA sc j, sn - j, sc - j, sl.drop j⟩, by omega, by omega, by go_num, rfl, rfl, by rw [List.map_append]; exact ho, fun p hp => ?_, ⟨r2, ?_⟩, HH.out, hB1⟩, by simp [intOf]; omega⟩
      · rcases List.mem_append.1 hp with hp | hp
        · exact HQ.out p hp
        · simp only [List.mem_singleton] at hp
          subst hp
          exact ⟨r1, Nat.le_trans (show j ≤ sn by omega) HS2.out⟩
      · have := HS2.out
        show sn - j ≤ sc - j
        omega
    · have HQ := Lib.hid hqs
      have HS2 := Lib.hid hs
      have HALL : Hid (allP (qs ++ [⟨sA, sn, sc, sl⟩]) = l) := by
        show _ = _
        rw [← hall]
        simp [allP]
      have gwr := Glob.below hB gw
      have HSA : Hid (∀ w1 A n c ps, n ≤ 100 → Parts w1 A n ps → allP ps = l → Glob w1 → Calls Tryd.prog 8 #[.slice A n c] w1 fun e w' => e = .returned (.agg (u8s (shaL l)).toArray) ∧ Below w1.heap.size w1 w') := by
        intro w1 A n c ps hn hp hl hg
        exact shaSum_any A n c ps (by omega) l hl (by omega) w1 hp hg
      obtain ⟨D, hD⟩ : ∃ D, D = shaL l := ⟨_, rfl⟩
      have hDl : D.length = 32 := by rw [hD]; simp
      rw [← hD] at HSA
      have heq := fun w1 => eqA32 D hDl w1
      have hk1 : k < 100 := by omega
      clear hqs hs hall hz hD
      by_cases hlt1 : k < n2
      · have hlt2 : 6 ≤ k := by omega
        clear hlt
        go_wp2_with first
          | (go_at_call 9; refine (digests_any _ gwr).mono ?_; rintro e w1 ⟨rfl, hB1⟩; have hown1 := Gr.own hB1 hown; have hB2 := hB.trans (hB1.mono hbs); have hbs2 := hB2.size; clear hown hB hB1 gwr hbs)
          | (at_builtin; go_must (refine wpList_appW1 w1 (by first | rfl | kernel_rfl) (.tmp 47) (.tmp 49) 22 rfl w.heap.size 28 i1 (.slice none 0 0) 24 Tryd.underlying22 hi1 hy0 hy1 hy2 rfl (.slice Ap k cp) k _ rfl hown1 _ (.slice sA sn sc) rfl rfl rfl (by omega) (by unfold maxLen; omega) hbs2 ?_))
        intro v' w2 hA
        obtain ⟨A3, c3, rfl, _, _⟩ := own_form hA.own
        have hr2 := Rd.of_own hA.own
        have hB3 := hB2.trans (hA.below hown1 hbs2)
        have hP : Parts w2 A3 (k + 1) (qs ++ [⟨sA, sn, sc, sl⟩]) := ⟨by rw [List.map_append]; exact hr2, fun p hp => by
          rcases List.mem_append.1 hp with hp | hp
          · exact ⟨(HQ.out p hp).1.below hB3, (HQ.out p hp).2⟩
          · simp only [List.mem_singleton] at hp
            subst hp
            exact ⟨HS2.out.1.below hB3, HS2.out.2⟩⟩
        have gw2 := Glob.below hB3 gw
        have HP1 := HSA.out w2 A3 (k + 1) c3 _ (by omega) hP HALL.out gw2
        clear hA hown1 hB2 hr2 hP
        go_simp
        go_wp2_with fail
        go_at_call 8
        refine HP1.mono ?_
        rintro e w3 ⟨rfl, hB4⟩
        have hB5 := hB3.trans (hB4.mono hB3.size)
        have gw3 := Glob.below hB5 gw
        have hrm3 := hrm.below hB5
        have HP2 := HSA.out _ (some ⟨w3.heap.size, 0, none⟩) 1 1 [⟨A, m, c, l⟩] (by omega) (parts1 rfl 28 ⟨A, m, c, l⟩ hrm3 (by show m ≤ c; omega)) (by simp [allP]) (gw3.gr (Gr.alloc _ _))
        clear hB3 hB4 HP1
        go_simp
        go_wp2_with fail
        go_at_call 8
        refine HP2.mono ?_
        rintro e w4 ⟨rfl, hB6⟩
        have hB7 := (hB5.alloc hB5.size _).trans (hB6.mono (by have := hB5.size; simp only [asz]; omega))
        clear hB6 HP2 hB5
        go_simp
        go_wp2_with fail
        go_ret
        exact ⟨rfl, hB7⟩
      · clear hlt
        go_wp2_with first
          | (go_at_call 9; refine (digests_any _ gwr).mono ?_; rintro e w1 ⟨rfl, hB1⟩; have hown1 := Gr.own hB1 hown; have hB2 := hB.trans (hB1.mono hbs); have hbs2 := hB2.size; clear hown hB hB1 gwr hbs)
          | (at_builtin; go_must (refine wpList_appW1 w1 (by first | rfl | kernel_rfl) (.tmp 47) (.tmp 49) 22 rfl w.heap.size 28 i1 (.slice none 0 0) 24 Tryd.underlying22 hi1 hy0 hy1 hy2 rfl (.slice Ap k cp) k _ rfl hown1 _ (.slice sA sn sc) rfl rfl rfl (by omega) (by unfold maxLen; omega) hbs2 ?_))
        intro v' w2 hA
        obtain ⟨A3, c3, rfl, _, _⟩ := own_form hA.own
        have hr2 := Rd.of_own hA.own
        have hB3 := hB2.trans (hA.below hown1 hbs2)
        have hP : Parts w2 A3 (k + 1) (qs ++ [⟨sA, sn, sc, sl⟩]) := ⟨by rw [List.map_append]; exact hr2, fun p hp => by
          rcases List.mem_append.1 hp with hp | hp
          · exact ⟨(HQ.out p hp).1.below hB3, (HQ.out p hp).2⟩
          · simp only [List.mem_singleton] at hp
            subst hp
            exact ⟨HS2.out.1.below hB3, HS2.out.2⟩⟩
        have gw2 := Glob.below hB3 gw
        have HP1 := HSA.out w2 A3 (k + 1) c3 _ (by omega) hP HALL.out gw2
        clear hA hown1 hB2 hr2 hP
        go_simp
        go_wp2_with fail
        go_at_call 8
        refine HP1.mono ?_
        rintro e w3 ⟨rfl, hB4⟩
        have hB5 := hB3.trans (hB4.mono hB3.size)
        have gw3 := Glob.below hB5 gw
        have hrm3 := hrm.below hB5
        have HP2 := HSA.out _ (some ⟨w3.heap.size, 0, none⟩) 1 1 [⟨A, m, c, l⟩] (by omega) (parts1 rfl 28 ⟨A, m, c, l⟩ hrm3 (by show m ≤ c; omega)) (by simp [allP]) (gw3.gr (Gr.alloc _ _))
        clear hB3 hB4 HP1
        go_simp
        go_wp2_with fail
        go_at_call 8
        refine HP2.mono ?_
        rintro e w4 ⟨rfl, hB6⟩
        have hB7 := (hB5.alloc hB5.size _).trans (hB6.mono (by have := hB5.size; simp only [asz]; omega))
        clear hB6 HP2 hB5
        go_simp
        go_wp2_with fail
        go_ret
        exact ⟨rfl, hB7⟩
end Go.Proofs.YtkhbnandmhlnoaaDoor
