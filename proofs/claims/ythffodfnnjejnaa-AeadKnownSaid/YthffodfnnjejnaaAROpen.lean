/- The walk of the reference's Open. No condition. -/
import Derived.Test.YthffodfnnjejnaaAOpen
namespace Go.Proofs.Ythffodfnnjejnaa
open Go.RowKit
/-- What the reference's Open answers. -/
def ROpenQ (K N W s : List UInt8) (e : Ending) : Prop :=
  (s.length < 16 ∧ e = .returned (.tuple #[.string ⟨#[]⟩, .bool false])) ∨
  (16 ≤ s.length ∧ aTag K N W (s.take (s.length - 16)) ≠ s.drop (s.length - 16) ∧ e = .returned (.tuple #[.string ⟨#[]⟩, .bool false])) ∨
  (16 ≤ s.length ∧ aTag K N W (s.take (s.length - 16)) = s.drop (s.length - 16) ∧ e = .returned (.tuple #[.string ⟨(hideL K N (s.take (s.length - 16))).toArray⟩, .bool true]))
theorem run_lenStr {P : Program} {ev : Operand → Value} {d : Option Tmp} {t T : TypeId} {p : String} {af : Array Edge} {gd : Option (Nat × Bool)} {w : World} {x : Operand} {s : ByteArray} {n : Nat} (h1 : ev x = .string s) (hn : s.size = n) (hT : P.underlying T = some .string) :
    (execOp ev ⟨d, .call { callee := .builtin .len, args := #[x], argTypes := #[T] }, t, p, af, gd⟩).run P w = .ok (.value (.int .i64 (n : Int))) w := by
  subst hn
  simp only [execOp, resolve, invoke, List.map_toArray, List.map_cons, List.map_nil, h1]
  go_simp
theorem run_neS_f {P : Program} {ev : Operand → Value} {d : Option Tmp} {t T U : TypeId} {p : String} {af : Array Edge} {gd : Option (Nat × Bool)} {w : World} {x y : Operand} {a b : ByteArray} (he : a = b) (h1 : ev x = .string a) (h2 : ev y = .string b) :
    (execOp ev ⟨d, .binOp .neq T x y U, t, p, af, gd⟩).run P w = .ok (.value (.bool false)) w := by
  subst he
  simp only [execOp, h1, h2]
  go_simp
theorem bytes_of_toList {a b : ByteArray} (h : a.toList = b.toList) : a = b := by
  rw [ByteArray.toList_eq, ByteArray.toList_eq] at h
  exact ByteArray.ext (Array.toList_inj.1 h)
theorem run_neS_t {P : Program} {ev : Operand → Value} {d : Option Tmp} {t T U : TypeId} {p : String} {af : Array Edge} {gd : Option (Nat × Bool)} {w : World} {x y : Operand} {a b : ByteArray} (he : a ≠ b) (h1 : ev x = .string a) (h2 : ev y = .string b) :
    (execOp ev ⟨d, .binOp .neq T x y U, t, p, af, gd⟩).run P w = .ok (.value (.bool true)) w := by
  have h3 : ¬ a.toList = b.toList := fun h => he (bytes_of_toList h)
  simp only [execOp, h1, h2]
  go_simp
theorem str_inj {a b : List UInt8} : (⟨a.toArray⟩ : ByteArray) = ⟨b.toArray⟩ ↔ a = b := by
  constructor
  · intro h
    have := congrArg ByteArray.data h
    simpa using this
  · intro h; rw [h]
set_option maxRecDepth 100000 in
set_option maxHeartbeats 8000000 in
theorem rOpen_any (K : List UInt8) (hK : K.length = 32) (N : List UInt8) (hN : N.length = 12) (W s : List UInt8) (hW : W.length ≤ 90000) (hs : s.length ≤ 90000) (w : World) :
    Calls Try.prog 12 #[.string ⟨K.toArray⟩, .string ⟨N.toArray⟩, .string ⟨W.toArray⟩, .string ⟨s.toArray⟩] w fun e w' => ROpenQ K N W s e ∧ Below w.heap.size w w' := by
  obtain ⟨y, hy⟩ : ∃ k : ByteArray, k = ⟨s.toArray⟩ := ⟨_, rfl⟩
  have sy : y.size = s.length := by rw [hy]; rfl
  by_cases h16 : s.length < 16
  · have hlt : (y.size : Int) < 16 := by omega
    have HX := Lib.hid h16
    rw [← hy]
    clear hy sy h16
    go_enter Try.func12, Try.ntmps12
    go_wp2_with fail
    refine bodyPost_ret (results_tmp2 rfl _ _ _) rfl ?_
    exact ⟨.inl ⟨HX.out, rfl⟩, Below.refl _ _⟩
  · obtain ⟨j, hj⟩ : ∃ j : Nat, s.length = j + 16 := ⟨s.length - 16, by omega⟩
    have hji : (y.size : Int) - 16 = (j : Int) := by omega
    have hnn : ¬ (y.size : Int) < 16 := by omega
    have e1 : s.length - 16 = j := by omega
    obtain ⟨C, hC⟩ : ∃ C, C = s.take j := ⟨_, rfl⟩
    obtain ⟨E, hE⟩ : ∃ E, E = s.drop j := ⟨_, rfl⟩
    have hCl : C.length = j := by rw [hC, List.length_take]; omega
    obtain ⟨T, hT⟩ : ∃ T, T = aTag K N W C := ⟨_, rfl⟩
    have HQ1 : Hid (T ≠ E → ROpenQ K N W s (.returned (.tuple #[.string ⟨#[]⟩, .bool false]))) := fun h => .inr (.inl ⟨by omega, by rw [e1, ← hC, ← hE, ← hT]; exact h, rfl⟩)
    have HQ2 : Hid (T = E → ROpenQ K N W s (.returned (.tuple #[.string ⟨(hideL K N C).toArray⟩, .bool true]))) := fun h => .inr (.inr ⟨by omega, by rw [e1, ← hC, ← hE, ← hT]; exact h, by rw [e1, ← hC]⟩)
    obtain ⟨k, hk⟩ : ∃ k : ByteArray, k = ⟨K.toArray⟩ := ⟨_, rfl⟩
    obtain ⟨nn, hnn2⟩ : ∃ k : ByteArray, k = ⟨N.toArray⟩ := ⟨_, rfl⟩
    obtain ⟨x, hx⟩ : ∃ k : ByteArray, k = ⟨W.toArray⟩ := ⟨_, rfl⟩
    obtain ⟨cc, hcc⟩ : ∃ k : ByteArray, k = ⟨C.toArray⟩ := ⟨_, rfl⟩
    obtain ⟨t, ht⟩ : ∃ k : ByteArray, k = ⟨T.toArray⟩ := ⟨_, rfl⟩
    obtain ⟨u, hu⟩ : ∃ k : ByteArray, k = ⟨E.toArray⟩ := ⟨_, rfl⟩
    obtain ⟨r, hr⟩ : ∃ k : ByteArray, k = ⟨(hideL K N C).toArray⟩ := ⟨_, rfl⟩
    have HS : Hid (∀ w, Calls Try.prog 16 #[.string k, .int .u32 1, .string nn, .string cc] w fun e w' => e = .returned (.string r) ∧ Below w.heap.size w w') := by
      intro w
      rw [hr, hk, hnn2, hcc]
      exact refStream_any K hK 1 N hN C (by omega) w
    have HT : Hid (∀ w, Calls Try.prog 17 #[.string k, .string nn, .string x, .string cc] w fun e w' => e = .returned (.string t) ∧ Below w.heap.size w w') := by
      intro w
      rw [hk, hnn2, hx, hcc, ht, hT]
      exact rTag_any K hK N hN W C (by omega) (by omega) w
    have HC1 : Hid (∀ w, (Instr.slice 9 (.string y) none (some (.int .i64 (j : Int))) none).run Try.prog w = .ok (.string cc) w) := by
      intro w
      rw [hy, hcc, hC]
      exact run_cutS_h Try.underlying9 s j j rfl (by omega) w
    have HC2 : Hid (∀ w, (Instr.slice 9 (.string y) (some (.int .i64 (j : Int))) none none).run Try.prog w = .ok (.string u) w) := by
      intro w
      rw [hy, hu, hE]
      exact run_cutS_l Try.underlying9 s j j rfl (by omega) w
    have HI : Hid (t = u ↔ T = E) := by
      show _ ↔ _
      rw [ht, hu, str_inj]
    have HSZ : Hid (y.size = j + 16) := by show _ = _; omega
    rw [← hk, ← hnn2, ← hx, ← hy]
    rw [← hr] at HQ2
    have hcut := HC1.out
    have hjb : j ≤ 90000 := by omega
    have hjc : (j : Int) ≤ 90000 := by omega
    clear hk hnn2 hx hy hcc ht hu hr hT hC hE e1 sy h16 hj hCl hs hW
    go_enter Try.func12, Try.ntmps12
    go_wp2_with fail
    by_cases hTE : T = E
    · have HNE : Hid (t = u) := HI.out.2 hTE
      have HQ := Lib.hid (HQ2.out hTE)
      clear HI HQ1 HQ2 hTE hcut
      refine wp_region_ssaL (by kernel_rfl) [IsV (.string k), IsV (.string nn), IsV (.string x), IsV (.string cc), IsV (.string t), IsV (.string y), IsV (.string y), IsV (.int .i64 (((j + 16) : Nat) : Int)), IsV (.int .i64 ((j : Nat) : Int)), IsV (.string u), IsV (.bool false)] (by kernel_rfl) ?_ ?_ ?_
      · intro φ hφ v w1 w2 h hg
        simp only [List.mem_cons, List.not_mem_nil, or_false] at hφ
        rcases hφ with rfl | rfl | rfl | rfl | rfl | rfl | rfl | rfl | rfl | rfl | rfl
        all_goals first | exact h | exact RdV.gr h hg
      · refine ⟨?_, ?_, ?_, ?_, ?_, ?_, ?_, ?_, ?_, ?_, ?_, trivial⟩
        · intro a1 w1 hG hF
          exact s_old rfl (wants0 rfl) (.tmp 0) (.inr rfl) (.string k) (hF.ol 0 (by kernel_rfl)) rfl
        · intro a1 w1 hG hF
          exact s_old rfl (wants0 rfl) (.tmp 1) (.inr rfl) (.string nn) (hF.ol 1 (by kernel_rfl)) rfl
        · intro a1 w1 hG hF
          exact s_old rfl (wants0 rfl) (.tmp 2) (.inr rfl) (.string x) (hF.ol 2 (by kernel_rfl)) rfl
        · intro a1 w1 hG hF
          exact s_old rfl (wants0 rfl) (.tmp 10) (.inr rfl) (.string cc) (hF.ol 10 (by kernel_rfl)) rfl
        · intro a1 w1 hG hF
          obtain ⟨_, e19, rfl⟩ := hF.dp 0 19 (by kernel_rfl)
          obtain ⟨_, e20, rfl⟩ := hF.dp 1 20 (by kernel_rfl)
          obtain ⟨_, e21, rfl⟩ := hF.dp 2 21 (by kernel_rfl)
          obtain ⟨_, e22, rfl⟩ := hF.dp 3 22 (by kernel_rfl)
          exact s_call rfl (wants0 rfl) _ rfl _ _ (by simp only [execOp, resolve, invoke, List.map_toArray, List.map_cons, List.map_nil, e19, e20, e21, e22]; go_simp) ((HT.out w1).mono fun e w2 ⟨he, hb⟩ => ⟨_, he, rfl, hb⟩)
        · intro a1 w1 hG hF
          exact s_old rfl (wants0 rfl) (.tmp 3) (.inr rfl) (.string y) (hF.ol 3 (by kernel_rfl)) rfl
        · intro a1 w1 hG hF
          exact s_old rfl (wants0 rfl) (.tmp 3) (.inr rfl) (.string y) (hF.ol 3 (by kernel_rfl)) rfl
        · intro a1 w1 hG hF
          obtain ⟨_, e25, rfl⟩ := hF.dp 6 25 (by kernel_rfl)
          exact s_is rfl (wants0 rfl) _ rfl (run_lenStr e25 HSZ.out Try.underlying9)
        · intro a1 w1 hG hF
          obtain ⟨_, e26, rfl⟩ := hF.dp 7 26 (by kernel_rfl)
          exact s_is rfl (wants0 rfl) _ rfl (by rw [show ((j : Nat) : Int) = ((j + 16 - 16 : Nat) : Int) by omega]; exact run_subN (a := j + 16) (b := 16) e26 rfl (by omega) (by omega))
        · intro a1 w1 hG hF
          obtain ⟨_, e24, rfl⟩ := hF.dp 5 24 (by kernel_rfl)
          obtain ⟨_, e27, rfl⟩ := hF.dp 8 27 (by kernel_rfl)
          exact s_is rfl (wants0 rfl) _ rfl (by simp only [execOp, e24, e27, Option.map, Sem.run_bind]; rw [run_sliceAt_string _ _ _ _ _ _ Try.underlying9, HC2.out]; rfl)
        · intro a1 w1 hG hF
          obtain ⟨_, e23, rfl⟩ := hF.dp 4 23 (by kernel_rfl)
          obtain ⟨_, e28, rfl⟩ := hF.dp 9 28 (by kernel_rfl)
          exact s_is rfl (wants0 rfl) _ rfl (run_neS_f HNE.out e23 e28)
      · intro vs w1 hG hf
        have z29 : vs 10 = .bool false := hf.2.2.2.2.2.2.2.2.2.2.1
        clear hf
        simp only [putAll, Nat.zero_add, Nat.reduceAdd, z29]
        go_simp
        go_wp2_with fail
        refine (HS.out w1).mono ?_
        rintro e w2 ⟨rfl, hB2⟩
        have hG2 := (Gr.drew w).trans hG
        go_wp2_with fail
        refine bodyPost_ret (results_tmp2 rfl _ _ _) rfl ?_
        exact ⟨HQ.out, Below.trans hG2 (hB2.mono hG2.size)⟩
    · have HNE : Hid (t ≠ u) := fun h => hTE (HI.out.1 h)
      have HQ := Lib.hid (HQ1.out hTE)
      clear HI HQ1 HQ2 hTE hcut
      refine wp_region_ssaL (by kernel_rfl) [IsV (.string k), IsV (.string nn), IsV (.string x), IsV (.string cc), IsV (.string t), IsV (.string y), IsV (.string y), IsV (.int .i64 (((j + 16) : Nat) : Int)), IsV (.int .i64 ((j : Nat) : Int)), IsV (.string u), IsV (.bool true)] (by kernel_rfl) ?_ ?_ ?_
      · intro φ hφ v w1 w2 h hg
        simp only [List.mem_cons, List.not_mem_nil, or_false] at hφ
        rcases hφ with rfl | rfl | rfl | rfl | rfl | rfl | rfl | rfl | rfl | rfl | rfl
        all_goals first | exact h | exact RdV.gr h hg
      · refine ⟨?_, ?_, ?_, ?_, ?_, ?_, ?_, ?_, ?_, ?_, ?_, trivial⟩
        · intro a1 w1 hG hF
          exact s_old rfl (wants0 rfl) (.tmp 0) (.inr rfl) (.string k) (hF.ol 0 (by kernel_rfl)) rfl
        · intro a1 w1 hG hF
          exact s_old rfl (wants0 rfl) (.tmp 1) (.inr rfl) (.string nn) (hF.ol 1 (by kernel_rfl)) rfl
        · intro a1 w1 hG hF
          exact s_old rfl (wants0 rfl) (.tmp 2) (.inr rfl) (.string x) (hF.ol 2 (by kernel_rfl)) rfl
        · intro a1 w1 hG hF
          exact s_old rfl (wants0 rfl) (.tmp 10) (.inr rfl) (.string cc) (hF.ol 10 (by kernel_rfl)) rfl
        · intro a1 w1 hG hF
          obtain ⟨_, e19, rfl⟩ := hF.dp 0 19 (by kernel_rfl)
          obtain ⟨_, e20, rfl⟩ := hF.dp 1 20 (by kernel_rfl)
          obtain ⟨_, e21, rfl⟩ := hF.dp 2 21 (by kernel_rfl)
          obtain ⟨_, e22, rfl⟩ := hF.dp 3 22 (by kernel_rfl)
          exact s_call rfl (wants0 rfl) _ rfl _ _ (by simp only [execOp, resolve, invoke, List.map_toArray, List.map_cons, List.map_nil, e19, e20, e21, e22]; go_simp) ((HT.out w1).mono fun e w2 ⟨he, hb⟩ => ⟨_, he, rfl, hb⟩)
        · intro a1 w1 hG hF
          exact s_old rfl (wants0 rfl) (.tmp 3) (.inr rfl) (.string y) (hF.ol 3 (by kernel_rfl)) rfl
        · intro a1 w1 hG hF
          exact s_old rfl (wants0 rfl) (.tmp 3) (.inr rfl) (.string y) (hF.ol 3 (by kernel_rfl)) rfl
        · intro a1 w1 hG hF
          obtain ⟨_, e25, rfl⟩ := hF.dp 6 25 (by kernel_rfl)
          exact s_is rfl (wants0 rfl) _ rfl (run_lenStr e25 HSZ.out Try.underlying9)
        · intro a1 w1 hG hF
          obtain ⟨_, e26, rfl⟩ := hF.dp 7 26 (by kernel_rfl)
          exact s_is rfl (wants0 rfl) _ rfl (by rw [show ((j : Nat) : Int) = ((j + 16 - 16 : Nat) : Int) by omega]; exact run_subN (a := j + 16) (b := 16) e26 rfl (by omega) (by omega))
        · intro a1 w1 hG hF
          obtain ⟨_, e24, rfl⟩ := hF.dp 5 24 (by kernel_rfl)
          obtain ⟨_, e27, rfl⟩ := hF.dp 8 27 (by kernel_rfl)
          exact s_is rfl (wants0 rfl) _ rfl (by simp only [execOp, e24, e27, Option.map, Sem.run_bind]; rw [run_sliceAt_string _ _ _ _ _ _ Try.underlying9, HC2.out]; rfl)
        · intro a1 w1 hG hF
          obtain ⟨_, e23, rfl⟩ := hF.dp 4 23 (by kernel_rfl)
          obtain ⟨_, e28, rfl⟩ := hF.dp 9 28 (by kernel_rfl)
          exact s_is rfl (wants0 rfl) _ rfl (run_neS_t HNE.out e23 e28)
      · intro vs w1 hG hf
        have z29 : vs 10 = .bool true := hf.2.2.2.2.2.2.2.2.2.2.1
        clear hf
        simp only [putAll, Nat.zero_add, Nat.reduceAdd, z29]
        have hG2 := (Gr.drew w).trans hG
        go_simp
        go_wp2_with fail
        refine bodyPost_ret (results_tmp2 rfl _ _ _) rfl ?_
        exact ⟨HQ.out, hG2⟩
end Go.Proofs.Ythffodfnnjejnaa

