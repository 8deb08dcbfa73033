/- What an ideal vault did not seal it does not open: the table's keys alone are looked at. No condition. -/
import Derived.Test.YtnmhfomnlnlflaaDoorKitF
import Derived.Test.YtnmhfomnlnlflaaDoorRemU
namespace Go.Proofs.YtnmhfomnlnlflaaDoor
open Go.RowKit
set_option maxRecDepth 100000 in
set_option maxHeartbeats 16000000 in
theorem vopen_miss {w : World} {g b1 b2 b3 : Nat} {K : List UInt8} (hA : Arr w g 58 (Value.bool true :: (u8s K ++ [Value.map (some b1), Value.map (some b2), Value.map (some b3)]))) (hKl : K.length = 32) {T : List (Value × Value)} (hM0 : MapIs Tryd.prog 67 w b3 T) (e c k : Nat) (hR : Right e c k)
    (A : Option Addr) (n cn : Nat) (wi : List UInt8) (D : Option Addr) (m dm : Nat) (s : List UInt8) (hn : n ≤ 9000) (hm16 : 16 ≤ m) (hm : m ≤ 9000) (hr : Rd w A n (u8s wi)) (hb : Rd w D m (u8s s)) (hnoT : ∀ p ∈ T, p.1 ≠ sealV e c k wi s) :
    Calls Tryd.prog 15 #[.pointer (some ⟨g, 0, none⟩), .int .i64 (e : Int), .int .i64 (c : Int), .int .i64 (k : Int), .slice A n cn, .slice D m dm] w fun r w' => r = .returned (.tuple #[.slice none 0 0, .int .i64 6]) ∧ Gr w w' := by
  have HR := Lib.hid (right_yes e c k hR)
  have hbl : s.length = m := by simpa using hb.1
  have hwl : wi.length = n := by simpa using hr.1
  have hm16i : ¬ (m : Int) < 16 := by omega
  obtain ⟨r1, r2, r3, r4, r5, r6⟩ := hR
  obtain ⟨ks, hks⟩ := keyOf_seal (e := e) (c := c) (k := k) (wi := wi) (out := s) (by omega) (by omega) (by omega) (by omega) (by omega)
  have hzs : ∀ w, (zeroValue 27).run Tryd.prog w = .ok (.slice none 0 0) w := fun w => by kernel_rfl
  clear r1 r2 r3 r4 r5 r6
  go_enter Tryd.func15, Tryd.ntmps15
  go_wp2_with fail
  refine (HR.out w).mono ?_
  rintro r w0 ⟨rfl, hG1⟩
  have hA1 := hA.gr hG1
  have hr1 := hG1.rd hr
  have hb1 := hG1.rd hb
  have hM := hM0.gr hG1
  have c0 := va_cell0 hA1
  have c35 : w0.cell? ⟨g, 35, none⟩ = some (.map (some b3)) := va_cellN hA1 hKl (j := 2) rfl
  clear hA hr hb hM0
  go_upto_region 6 with fail
  refine wp_region_ssaL (by kernel_rfl) [IsV (.pointer (some ⟨g, 0, none⟩)), IsV (.pointer (some ⟨g, 0, none⟩)), IsV (.pointer (some ⟨g, 35, none⟩)), IsV (.map (some b3)), IsV (.int .i64 ((c : Nat) : Int)), IsV (.int .i64 ((k : Nat) : Int)), IsV (.agg #[.int .i64 (c : Int), .int .i64 (k : Int)]), IsV (.int .i64 ((e : Nat) : Int)), IsV (.slice A n cn), IsV (.string ⟨(wi).toArray⟩), IsV (.slice D m dm), IsV (.string ⟨(s).toArray⟩), IsV (sealV e c k wi s), IsV (.tuple #[.slice none 0 0, .bool false]), IsV (.tuple #[.slice none 0 0, .bool false]), IsV (.slice none 0 0), IsV (.bool false), IsV (.slice none 0 0), IsV (.bool false)] (by kernel_rfl) ?_ ?_ ?_
  · intro φ hφ v w1 w2 h hg
    simp only [List.mem_cons, List.not_mem_nil, or_false] at hφ
    rcases hφ with rfl | rfl | rfl | rfl | rfl | rfl | rfl | rfl | rfl | rfl | rfl | rfl | rfl | rfl | rfl | rfl | rfl | rfl | rfl
    all_goals first | exact h | exact RdV.gr h hg
  · refine ⟨?_, ?_, ?_, ?_, ?_, ?_, ?_, ?_, ?_, ?_, ?_, ?_, ?_, ?_, ?_, ?_, ?_, ?_, ?_, trivial⟩
    · intro a1 w1 hG hF
      exact s_old rfl (wants0 rfl) (.tmp 0) (.inr rfl) (.pointer (some ⟨g, 0, none⟩)) (hF.ol 0 (by kernel_rfl)) rfl
    · intro a1 w1 hG hF
      obtain ⟨_, e38, rfl⟩ := hF.dp 0 38 (by kernel_rfl)
      exact s_is rfl (wants0 rfl) _ rfl (run_nil e38)
    · intro a1 w1 hG hF
      obtain ⟨_, e39, rfl⟩ := hF.dp 1 39 (by kernel_rfl)
      exact s_is rfl (wants0 rfl) _ rfl (run_field (o := 35) (k := 0) Tryd.underlying58 rfl rfl (by kernel_rfl) e39)
    · intro a1 w1 hG hF
      obtain ⟨_, e40, rfl⟩ := hF.dp 2 40 (by kernel_rfl)
      exact s_is rfl (wants0 rfl) _ rfl (run_load1B (.inr (.inl ⟨_, _, Tryd.underlying56⟩)) e40 (Gr.cell ((Gr.drew w0).trans hG) c35))
    · intro a1 w1 hG hF
      exact s_old rfl (wants0 rfl) (.tmp 2) (.inr rfl) (.int .i64 ((c : Nat) : Int)) (hF.ol 2 (by kernel_rfl)) rfl
    · intro a1 w1 hG hF
      exact s_old rfl (wants0 rfl) (.tmp 3) (.inr rfl) (.int .i64 ((k : Nat) : Int)) (hF.ol 3 (by kernel_rfl)) rfl
    · intro a1 w1 hG hF
      obtain ⟨_, e42, rfl⟩ := hF.dp 4 42 (by kernel_rfl)
      obtain ⟨_, e43, rfl⟩ := hF.dp 5 43 (by kernel_rfl)
      exact s_is rfl (wants0 rfl) _ rfl (run_buildU e42 e43)
    · intro a1 w1 hG hF
      exact s_old rfl (wants0 rfl) (.tmp 1) (.inr rfl) (.int .i64 ((e : Nat) : Int)) (hF.ol 1 (by kernel_rfl)) rfl
    · intro a1 w1 hG hF
      exact s_old rfl (wants0 rfl) (.tmp 4) (.inr rfl) (.slice A n cn) (hF.ol 4 (by kernel_rfl)) rfl
    · intro a1 w1 hG hF
      obtain ⟨_, e46, rfl⟩ := hF.dp 8 46 (by kernel_rfl)
      exact s_str rfl (wants0 rfl) 27 9 5 (.tmp 46) rfl Tryd.underlying27 Tryd.underlying5 Tryd.underlying9 _ _ _ (wi) e46 (((Gr.drew w0).trans hG).rd hr1) rfl
    · intro a1 w1 hG hF
      exact s_old rfl (wants0 rfl) (.tmp 5) (.inr rfl) (.slice D m dm) (hF.ol 5 (by kernel_rfl)) rfl
    · intro a1 w1 hG hF
      obtain ⟨_, e48, rfl⟩ := hF.dp 10 48 (by kernel_rfl)
      exact s_str rfl (wants0 rfl) 27 9 5 (.tmp 48) rfl Tryd.underlying27 Tryd.underlying5 Tryd.underlying9 _ _ _ (s) e48 (((Gr.drew w0).trans hG).rd hb1) rfl
    · intro a1 w1 hG hF
      obtain ⟨_, e44, rfl⟩ := hF.dp 6 44 (by kernel_rfl)
      obtain ⟨_, e45, rfl⟩ := hF.dp 7 45 (by kernel_rfl)
      obtain ⟨_, e47, rfl⟩ := hF.dp 9 47 (by kernel_rfl)
      obtain ⟨_, e49, rfl⟩ := hF.dp 11 49 (by kernel_rfl)
      exact s_is rfl (wants0 rfl) _ rfl (run_buildS e44 e45 e47 e49)
    · intro a1 w1 hG hF
      obtain ⟨_, e41, rfl⟩ := hF.dp 3 41 (by kernel_rfl)
      obtain ⟨_, e50, rfl⟩ := hF.dp 12 50 (by kernel_rfl)
      exact s_is rfl (wants0 rfl) _ rfl (run_miss (hM.gr ((Gr.drew w0).trans hG)) keyedT Tryd.underlying56 e41 e50 hks hnoT (hzs _) true)
    · intro a1 w1 hG hF
      exact s_same rfl (wants0 rfl) (.tmp 51) (.inr rfl) (hF.dp 13 51 (by kernel_rfl))
    · intro a1 w1 hG hF
      obtain ⟨_, e37, rfl⟩ := hF.dp 14 37 (by kernel_rfl)
      exact s_is rfl (wants0 rfl) _ rfl (by simp only [execOp, e37]; go_simp)
    · intro a1 w1 hG hF
      obtain ⟨_, e37, rfl⟩ := hF.dp 14 37 (by kernel_rfl)
      exact s_is rfl (wants0 rfl) _ rfl (by simp only [execOp, e37]; go_simp)
    · intro a1 w1 hG hF
      exact s_same rfl (wants0 rfl) (.tmp 52) (.inl rfl) (hF.dp 15 52 (by kernel_rfl))
    · intro a1 w1 hG hF
      exact s_same rfl (wants0 rfl) (.tmp 53) (.inl rfl) (hF.dp 16 53 (by kernel_rfl))
  · intro vs w1 hG hf
    have z14 : vs 17 = .slice none 0 0 := hf.2.2.2.2.2.2.2.2.2.2.2.2.2.2.2.2.2.1
    have z15 : vs 18 = .bool false := hf.2.2.2.2.2.2.2.2.2.2.2.2.2.2.2.2.2.2.1
    clear hf
    simp only [putAll, Nat.zero_add, Nat.reduceAdd, z14, z15]
    have hG2 := hG1.trans ((Gr.drew _).trans hG)
    generalize w1 = w3 at hG2 ⊢
    clear hG hM c0 c35 hr1 hb1 hA1
    go_simp
    go_wp2_with fail
    refine bodyPost_ret (results_tmp2 rfl _ _ _) rfl ?_
    exact ⟨rfl, hG2⟩
end Go.Proofs.YtnmhfomnlnlflaaDoor

