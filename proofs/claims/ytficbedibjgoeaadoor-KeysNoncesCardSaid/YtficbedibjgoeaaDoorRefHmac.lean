/- The walk of the reference's digest with a key. No condition. -/
import Derived.Test.YtficbedibjgoeaaDoorHmacP
import Derived.Test.YtficbedibjgoeaaDoorShaF
import Derived.Test.YtficbedibjgoeaaDoorParts
namespace Go.Proofs.YtficbedibjgoeaaDoor
open Go.RowKit
theorem padL_at {K : List UInt8} {x : UInt8} {k : Nat} {c : UInt8} (hk : k < 64) (h1 : k < (keyL K).length → (keyL K)[k]? = some c) (h2 : ¬ k < (keyL K).length → c = 0) : (padL K x)[k]? = some (c ^^^ x) := by
  rw [padL, List.getElem?_map]
  by_cases h : k < (keyL K).length
  · rw [List.getElem?_append_left h, h1 h]; rfl
  · have := keyL_le K
    rw [List.getElem?_append_right (by omega), List.getElem?_replicate, if_pos (by omega), h2 h]; rfl
/-- Two rows that share no block. -/
def Apart (v u : Value) : Prop := (v.ownBlock = none ∨ v.ownBlock ≠ u.ownBlock) ∧ (u.ownBlock = none ∨ u.ownBlock ≠ v.ownBlock)
theorem Apart.symm {v u : Value} (h : Apart v u) : Apart u v := ⟨h.2, h.1⟩
theorem apart_1 {base : Nat} {e : TypeId} {w w2 : World} {v v' u : Value} {n m : Nat} {xs ys : List Value} (h : Apart v u) (hA : Apped base e w w2 v v' n xs) (ho : w.ownsRow base e 1 u m ys) : Apart v' u := by
  rcases hA.lies with e1 | ⟨g, e1, hg⟩
  · unfold Apart; rw [e1]; exact h
  · unfold Apart
    rw [e1]
    refine ⟨.inr fun h => ?_, .inr fun h => ?_⟩
    · have := (ho.lt g h.symm).2; omega
    · have := (ho.lt g h).2; omega
set_option maxRecDepth 100000 in
set_option maxHeartbeats 4000000 in
theorem refHmac_any (K l : List UInt8) (hK : K.length ≤ 1000000) (hl : l.length ≤ 900000) (w : World) :
    Calls Tryd.prog 20 #[.string ⟨K.toArray⟩, .string ⟨l.toArray⟩] w fun e w' => e = .returned (.string ⟨(hmacL K l).toArray⟩) ∧ Below w.heap.size w w' := by
  obtain ⟨i0, hi0, hz0, hz1, hz2⟩ := info_parts Tryd.info5
  have hkl := keyL_le K
  obtain ⟨t, ht⟩ : ∃ t : ByteArray, t = ⟨K.toArray⟩ := ⟨_, rfl⟩
  obtain ⟨s, hs⟩ : ∃ s : ByteArray, s = ⟨(keyL K).toArray⟩ := ⟨_, rfl⟩
  have htl : t.size = K.length := by rw [ht]; rfl
  have hsl : s.size = (keyL K).length := by rw [hs]; rfl
  have hS1 : 64 < K.length → ∀ w, Calls Tryd.prog 26 #[.string t] w fun e w' => e = .returned (.string s) ∧ Below w.heap.size w w' := by
    intro h w
    rw [ht, hs, show keyL K = shaL K by rw [keyL, if_pos h]]
    exact refSum_any K hK w
  have hS2 : ¬ 64 < K.length → t = s := by
    intro h
    rw [ht, hs, keyL, if_neg h]
  have hP : Hid (∀ k c x, k < 64 → (∀ h : k < s.size, s[k] = c) → (¬ k < s.size → c = 0) → u8s ((padL K x).take (k + 1)) = u8s ((padL K x).take k) ++ [.int .u8 ((c ^^^ x).toNat : Int)]) := by
    intro k c x hk h1 h2
    have e1 : (padL K x)[k]? = some (c ^^^ x) := padL_at hk (fun h => by rw [← h1 (by omega)]; exact str_at hs (by omega)) (fun h => h2 (by omega))
    rw [take_snoc_ _ k _ e1, u8s_append, u8s_one]
  rw [← ht]
  have hS3 : Hid (∀ w, Calls Tryd.prog 26 #[.string ⟨(padL K 0x36 ++ l).toArray⟩] w fun e w' => e = .returned (.string ⟨(shaL (padL K 0x36 ++ l)).toArray⟩) ∧ Below w.heap.size w w') := fun w => refSum_any _ (by simp; omega) w
  have hS4 : Hid (∀ w, Calls Tryd.prog 26 #[.string ⟨(padL K 0x5C ++ shaL (padL K 0x36 ++ l)).toArray⟩] w fun e w' => e = .returned (.string ⟨(hmacL K l).toArray⟩) ∧ Below w.heap.size w w') := fun w => refSum_any _ (by simp) w
  have hsz : s.size ≤ 64 := by omega
  have htz : t.size ≤ 1000000 := by omega
  go_enter Tryd.func20, Tryd.ntmps20
  by_cases h64 : 64 < t.size
  · have hS := hS1 (by omega)
    have HT := Lib.hid htl
    have HS := Lib.hid hsl
    clear htl hsl ht hs hS1 hS2 hkl hK
    go_wp2_with (go_at_call 26; refine (hS _).mono ?_; rintro e w1 ⟨rfl, hB⟩)
    go_simp
    go_loopw [5, 6, 7] (fun vi vo i wr => ∃ k : Nat, k ≤ 64 ∧ i = .int .i64 k ∧ wr.ownsRow w.heap.size 5 1 vi k (u8s ((padL K 0x36).take k)) ∧ wr.ownsRow w.heap.size 5 1 vo k (u8s ((padL K 0x5C).take k)) ∧ Apart vi vo ∧ Below w.heap.size w wr) (fun _ _ i _ => 64 - (intOf i).toNat)
    case atStart => exact ⟨0, by omega, rfl, World.ownsRow_nil _ _ _ _, World.ownsRow_nil _ _ _ _, ⟨.inl rfl, .inl rfl⟩, hB⟩
    case round =>
      clear hB
      obtain ⟨k, hk, rfl, hoI, hoO, hap, hB⟩ := hrel
      have hbs := hB.size
      by_cases hlt : k < 64
      · by_cases hls : k < s.size
        · obtain ⟨x, hx⟩ : ∃ x, s[k] = x := ⟨_, rfl⟩
          have HX1 := Lib.hid (hP.out k x 0x36 hlt (fun _ => hx) (fun h => absurd hls h))
          have HX2 := Lib.hid (hP.out k x 0x5C hlt (fun _ => hx) (fun h => absurd hls h))
          have hxb := x.toNat_lt
          have ex1 : bits .xor .u8 (x.toNat : Int) 54 = ((x ^^^ 0x36).toNat : Int) := by
            have := u8_xor_nat x.toNat 54 hxb (by omega)
            rw [UInt8.toNat_xor]; exact this
          have ex2 : bits .xor .u8 (x.toNat : Int) 92 = ((x ^^^ 0x5C).toNat : Int) := by
            have := u8_xor_nat x.toNat 92 hxb (by omega)
            rw [UInt8.toNat_xor]; exact this
          go_upto_region 10 with fail
          have mk1 : (5 : Nat) < 6 := by omega
          go_wp2_with first
            | (at_builtin; clear mk1; go_must (refine wpList_app1 wr rfl (.tmp 25) (.tmp 28) 23 rfl w.heap.size 5 i0 (.int .u8 0) 1 Tryd.underlying23 hi0 hz0 hz1 hz2 rfl u5 k _ rfl hoI (.int .u8 ((x.toNat ^^^ 54 : Nat) : Int)) (.int .u8 ((x ^^^ 0x36).toNat : Int)) rfl (by rw [UInt8.toNat_xor] <;> rfl) rfl (by omega) (by unfold maxLen; omega) hbs ?_); intro v1 w2 hA1; have hoO2 := hoO.kept hA1.grown hap.2; have hap2 := apart_1 hap hA1 hoO; have hB2 := hB.trans (hA1.below hoI hbs); have hbs2 := hB2.size; clear hap hoO hB)
            | (at_builtin; go_must (refine wpList_app1 w2 rfl (.tmp 30) (.tmp 33) 23 rfl w.heap.size 5 i0 (.int .u8 0) 1 Tryd.underlying23 hi0 hz0 hz1 hz2 rfl u6 k _ rfl hoO2 (.int .u8 ((x.toNat ^^^ 92 : Nat) : Int)) (.int .u8 ((x ^^^ 0x5C).toNat : Int)) rfl (by rw [UInt8.toNat_xor] <;> rfl) rfl (by omega) (by unfold maxLen; omega) hbs2 ?_); intro v2 w3 hA2)
          have hoI3 := hA1.own.kept hA2.grown hap2.1
          have hap3 := apart_1 hap2.symm hA2 hA1.own
          have hB3 := hB2.trans (hA2.below hoO2 hbs2)
          have hoO3 := hA2.own
          rw [← HX1.out] at hoI3
          rw [← HX2.out] at hoO3
          clear hA1 hA2 hoI hoO2 hap2 hB2
          go_simp
          go_wp2_with fail
          exact ⟨⟨k + 1, by omega, by go_num, hoI3, hoO3, hap3.symm⟩, by simp [intOf]; omega⟩
        · have HX1 := Lib.hid (hP.out k 0 0x36 hlt (fun h => absurd h hls) (fun _ => rfl))
          have HX2 := Lib.hid (hP.out k 0 0x5C hlt (fun h => absurd h hls) (fun _ => rfl))
          obtain ⟨x, hx⟩ : ∃ x : UInt8, x = 0 := ⟨_, rfl⟩
          rw [← hx] at HX1 HX2
          have HX0 := Lib.hid hx
          clear hx
          go_upto_region 10 with fail
          have mk1 : (5 : Nat) < 6 := by omega
          go_wp2_with first
            | (at_builtin; clear mk1; go_must (refine wpList_app1 wr rfl (.tmp 25) (.tmp 28) 23 rfl w.heap.size 5 i0 (.int .u8 0) 1 Tryd.underlying23 hi0 hz0 hz1 hz2 rfl u5 k _ rfl hoI (.int .u8 (bits .xor .u8 0 54)) (.int .u8 ((x ^^^ 0x36).toNat : Int)) rfl (by rw [HX0.out] <;> rfl) rfl (by omega) (by unfold maxLen; omega) hbs ?_); intro v1 w2 hA1; have hoO2 := hoO.kept hA1.grown hap.2; have hap2 := apart_1 hap hA1 hoO; have hB2 := hB.trans (hA1.below hoI hbs); have hbs2 := hB2.size; clear hap hoO hB)
            | (at_builtin; go_must (refine wpList_app1 w2 rfl (.tmp 30) (.tmp 33) 23 rfl w.heap.size 5 i0 (.int .u8 0) 1 Tryd.underlying23 hi0 hz0 hz1 hz2 rfl u6 k _ rfl hoO2 (.int .u8 (bits .xor .u8 0 92)) (.int .u8 ((x ^^^ 0x5C).toNat : Int)) rfl (by rw [HX0.out] <;> rfl) rfl (by omega) (by unfold maxLen; omega) hbs2 ?_); intro v2 w3 hA2)
          have hoI3 := hA1.own.kept hA2.grown hap2.1
          have hap3 := apart_1 hap2.symm hA2 hA1.own
          have hB3 := hB2.trans (hA2.below hoO2 hbs2)
          have hoO3 := hA2.own
          rw [← HX1.out] at hoI3
          rw [← HX2.out] at hoO3
          clear hA1 hA2 hoI hoO2 hap2 hB2
          go_simp
          go_wp2_with fail
          exact ⟨⟨k + 1, by omega, by go_num, hoI3, hoO3, hap3.symm⟩, by simp [intOf]; omega⟩
      · obtain rfl : k = 64 := by omega
        obtain ⟨AI, cI, rfl, hcI, _⟩ := own_form hoI
        obtain ⟨AO, cO, rfl, hcO, _⟩ := own_form hoO
        have hrI := Rd.of_own hoI
        have hrO := Rd.of_own hoO
        rw [List.take_of_length_le (by simp)] at hrI hrO
        simp only [show ((64 : Nat) : Int) = 64 from rfl]
        clear hoI hoO hap hP
        go_wp2_with fail
        refine wp_region_ssaL (by kernel_rfl) [IsV (.slice AO 64 cO), IsV (.string ⟨(padL K 92).toArray⟩), IsV (.slice AI 64 cI), IsV (.string ⟨(padL K 54).toArray⟩), IsV (.string ⟨(l).toArray⟩), IsV (.string ⟨(padL K 54 ++ l).toArray⟩), IsV (.string ⟨(shaL (padL K 54 ++ l)).toArray⟩), IsV (.string ⟨(padL K 92 ++ shaL (padL K 54 ++ l)).toArray⟩), IsV (.string ⟨(hmacL K l).toArray⟩), IsV (.string ⟨(hmacL K l).toArray⟩)] (by kernel_rfl) ?_ ?_ ?_
        · intro φ hφ v w1 w2 h hg
          simp only [List.mem_cons, List.not_mem_nil, or_false] at hφ
          rcases hφ with rfl | rfl | rfl | rfl | rfl | rfl | rfl | rfl | rfl | rfl
          all_goals first | exact h | exact RdV.gr h hg
        · refine ⟨?_, ?_, ?_, ?_, ?_, ?_, ?_, ?_, ?_, ?_, trivial⟩
          · intro a1 w1 hG hF
            exact s_old rfl (wants0 rfl) (.tmp 6) (.inr rfl) (.slice AO 64 cO) (hF.ol 6 (by kernel_rfl)) rfl
          · intro a1 w1 hG hF
            obtain ⟨_, e35, rfl⟩ := hF.dp 0 35 (by kernel_rfl)
            exact s_str rfl (wants0 rfl) 23 9 5 (.tmp 35) rfl Tryd.underlying23 Tryd.underlying5 Tryd.underlying9 _ _ _ (padL K 92) e35 (((Gr.drew wr).trans hG).rd hrO) rfl
          · intro a1 w1 hG hF
            exact s_old rfl (wants0 rfl) (.tmp 5) (.inr rfl) (.slice AI 64 cI) (hF.ol 5 (by kernel_rfl)) rfl
          · intro a1 w1 hG hF
            obtain ⟨_, e37, rfl⟩ := hF.dp 2 37 (by kernel_rfl)
            exact s_str rfl (wants0 rfl) 23 9 5 (.tmp 37) rfl Tryd.underlying23 Tryd.underlying5 Tryd.underlying9 _ _ _ (padL K 54) e37 (((Gr.drew wr).trans hG).rd hrI) rfl
          · intro a1 w1 hG hF
            exact s_old rfl (wants0 rfl) (.tmp 1) (.inr rfl) (.string ⟨(l).toArray⟩) (hF.ol 1 (by kernel_rfl)) rfl
          · intro a1 w1 hG hF
            obtain ⟨_, e38, rfl⟩ := hF.dp 3 38 (by kernel_rfl)
            obtain ⟨_, e39, rfl⟩ := hF.dp 4 39 (by kernel_rfl)
            exact s_is rfl (wants0 rfl) _ rfl (run_addS (by simp; omega) e38 e39)
          · intro a1 w1 hG hF
            obtain ⟨_, e40, rfl⟩ := hF.dp 5 40 (by kernel_rfl)
            exact s_call rfl (wants0 rfl) _ rfl _ _ (by simp only [execOp, resolve, invoke, List.map_toArray, List.map_cons, List.map_nil, e40]; go_simp) ((hS3.out w1).mono fun e w2 ⟨he, hb⟩ => ⟨_, he, rfl, hb⟩)
          · intro a1 w1 hG hF
            obtain ⟨_, e36, rfl⟩ := hF.dp 1 36 (by kernel_rfl)
            obtain ⟨_, e41, rfl⟩ := hF.dp 6 41 (by kernel_rfl)
            exact s_is rfl (wants0 rfl) _ rfl (run_addS (by simp) e36 e41)
          · intro a1 w1 hG hF
            obtain ⟨_, e42, rfl⟩ := hF.dp 7 42 (by kernel_rfl)
            exact s_call rfl (wants0 rfl) _ rfl _ _ (by simp only [execOp, resolve, invoke, List.map_toArray, List.map_cons, List.map_nil, e42]; go_simp) ((hS4.out w1).mono fun e w2 ⟨he, hb⟩ => ⟨_, he, rfl, hb⟩)
          · intro a1 w1 hG hF
            exact s_same rfl (wants0 rfl) (.tmp 43) (.inl rfl) (hF.dp 8 43 (by kernel_rfl))
        · intro vs w1 hG hf
          have z4 : vs 9 = .string ⟨(hmacL K l).toArray⟩ := hf.2.2.2.2.2.2.2.2.2.1
          clear hf
          simp only [putAll, Nat.zero_add, Nat.reduceAdd, z4]
          go_simp
          go_wp2_with fail
          go_ret
          exact ⟨rfl, hB.trans (((Gr.drew wr).trans hG).mono hB.size)⟩
  · have hst := (hS2 (by omega)).symm
    subst hst
    have HT := Lib.hid htl
    have HS := Lib.hid hsl
    have hB := Below.refl w.heap.size w
    clear htl hsl ht hs hS1 hS2 hkl hK
    go_wp2_with fail
    go_simp
    go_loopw [5, 6, 7] (fun vi vo i wr => ∃ k : Nat, k ≤ 64 ∧ i = .int .i64 k ∧ wr.ownsRow w.heap.size 5 1 vi k (u8s ((padL K 0x36).take k)) ∧ wr.ownsRow w.heap.size 5 1 vo k (u8s ((padL K 0x5C).take k)) ∧ Apart vi vo ∧ Below w.heap.size w wr) (fun _ _ i _ => 64 - (intOf i).toNat)
    case atStart => exact ⟨0, by omega, rfl, World.ownsRow_nil _ _ _ _, World.ownsRow_nil _ _ _ _, ⟨.inl rfl, .inl rfl⟩, hB⟩
    case round =>
      clear hB
      obtain ⟨k, hk, rfl, hoI, hoO, hap, hB⟩ := hrel
      have hbs := hB.size
      by_cases hlt : k < 64
      · by_cases hls : k < s.size
        · obtain ⟨x, hx⟩ : ∃ x, s[k] = x := ⟨_, rfl⟩
          have HX1 := Lib.hid (hP.out k x 0x36 hlt (fun _ => hx) (fun h => absurd hls h))
          have HX2 := Lib.hid (hP.out k x 0x5C hlt (fun _ => hx) (fun h => absurd hls h))
          have hxb := x.toNat_lt
          have ex1 : bits .xor .u8 (x.toNat : Int) 54 = ((x ^^^ 0x36).toNat : Int) := by
            have := u8_xor_nat x.toNat 54 hxb (by omega)
            rw [UInt8.toNat_xor]; exact this
          have ex2 : bits .xor .u8 (x.toNat : Int) 92 = ((x ^^^ 0x5C).toNat : Int) := by
            have := u8_xor_nat x.toNat 92 hxb (by omega)
            rw [UInt8.toNat_xor]; exact this
          go_upto_region 10 with fail
          have mk1 : (5 : Nat) < 6 := by omega
          go_wp2_with first
            | (at_builtin; clear mk1; go_must (refine wpList_app1 wr rfl (.tmp 25) (.tmp 28) 23 rfl w.heap.size 5 i0 (.int .u8 0) 1 Tryd.underlying23 hi0 hz0 hz1 hz2 rfl u5 k _ rfl hoI (.int .u8 ((x.toNat ^^^ 54 : Nat) : Int)) (.int .u8 ((x ^^^ 0x36).toNat : Int)) rfl (by rw [UInt8.toNat_xor] <;> rfl) rfl (by omega) (by unfold maxLen; omega) hbs ?_); intro v1 w2 hA1; have hoO2 := hoO.kept hA1.grown hap.2; have hap2 := apart_1 hap hA1 hoO; have hB2 := hB.trans (hA1.below hoI hbs); have hbs2 := hB2.size; clear hap hoO hB)
            | (at_builtin; go_must (refine wpList_app1 w2 rfl (.tmp 30) (.tmp 33) 23 rfl w.heap.size 5 i0 (.int .u8 0) 1 Tryd.underlying23 hi0 hz0 hz1 hz2 rfl u6 k _ rfl hoO2 (.int .u8 ((x.toNat ^^^ 92 : Nat) : Int)) (.int .u8 ((x ^^^ 0x5C).toNat : Int)) rfl (by rw [UInt8.toNat_xor] <;> rfl) rfl (by omega) (by unfold maxLen; omega) hbs2 ?_); intro v2 w3 hA2)
          have hoI3 := hA1.own.kept hA2.grown hap2.1
          have hap3 := apart_1 hap2.symm hA2 hA1.own
          have hB3 := hB2.trans (hA2.below hoO2 hbs2)
          have hoO3 := hA2.own
          rw [← HX1.out] at hoI3
          rw [← HX2.out] at hoO3
          clear hA1 hA2 hoI hoO2 hap2 hB2
          go_simp
          go_wp2_with fail
          exact ⟨⟨k + 1, by omega, by go_num, hoI3, hoO3, hap3.symm⟩, by simp [intOf]; omega⟩
        · have HX1 := Lib.hid (hP.out k 0 0x36 hlt (fun h => absurd h hls) (fun _ => rfl))
          have HX2 := Lib.hid (hP.out k 0 0x5C hlt (fun h => absurd h hls) (fun _ => rfl))
          obtain ⟨x, hx⟩ : ∃ x : UInt8, x = 0 := ⟨_, rfl⟩
          rw [← hx] at HX1 HX2
          have HX0 := Lib.hid hx
          clear hx
          go_upto_region 10 with fail
          have mk1 : (5 : Nat) < 6 := by omega
          go_wp2_with first
            | (at_builtin; clear mk1; go_must (refine wpList_app1 wr rfl (.tmp 25) (.tmp 28) 23 rfl w.heap.size 5 i0 (.int .u8 0) 1 Tryd.underlying23 hi0 hz0 hz1 hz2 rfl u5 k _ rfl hoI (.int .u8 (bits .xor .u8 0 54)) (.int .u8 ((x ^^^ 0x36).toNat : Int)) rfl (by rw [HX0.out] <;> rfl) rfl (by omega) (by unfold maxLen; omega) hbs ?_); intro v1 w2 hA1; have hoO2 := hoO.kept hA1.grown hap.2; have hap2 := apart_1 hap hA1 hoO; have hB2 := hB.trans (hA1.below hoI hbs); have hbs2 := hB2.size; clear hap hoO hB)
            | (at_builtin; go_must (refine wpList_app1 w2 rfl (.tmp 30) (.tmp 33) 23 rfl w.heap.size 5 i0 (.int .u8 0) 1 Tryd.underlying23 hi0 hz0 hz1 hz2 rfl u6 k _ rfl hoO2 (.int .u8 (bits .xor .u8 0 92)) (.int .u8 ((x ^^^ 0x5C).toNat : Int)) rfl (by rw [HX0.out] <;> rfl) rfl (by omega) (by unfold maxLen; omega) hbs2 ?_); intro v2 w3 hA2)
          have hoI3 := hA1.own.kept hA2.grown hap2.1
          have hap3 := apart_1 hap2.symm hA2 hA1.own
          have hB3 := hB2.trans (hA2.below hoO2 hbs2)
          have hoO3 := hA2.own
          rw [← HX1.out] at hoI3
          rw [← HX2.out] at hoO3
          clear hA1 hA2 hoI hoO2 hap2 hB2
          go_simp
          go_wp2_with fail
          exact ⟨⟨k + 1, by omega, by go_num, hoI3, hoO3, hap3.symm⟩, by simp [intOf]; omega⟩
      · obtain rfl : k = 64 := by omega
        obtain ⟨AI, cI, rfl, hcI, _⟩ := own_form hoI
        obtain ⟨AO, cO, rfl, hcO, _⟩ := own_form hoO
        have hrI := Rd.of_own hoI
        have hrO := Rd.of_own hoO
        rw [List.take_of_length_le (by simp)] at hrI hrO
        simp only [show ((64 : Nat) : Int) = 64 from rfl]
        clear hoI hoO hap hP
        go_wp2_with fail
        refine wp_region_ssaL (by kernel_rfl) [IsV (.slice AO 64 cO), IsV (.string ⟨(padL K 92).toArray⟩), IsV (.slice AI 64 cI), IsV (.string ⟨(padL K 54).toArray⟩), IsV (.string ⟨(l).toArray⟩), IsV (.string ⟨(padL K 54 ++ l).toArray⟩), IsV (.string ⟨(shaL (padL K 54 ++ l)).toArray⟩), IsV (.string ⟨(padL K 92 ++ shaL (padL K 54 ++ l)).toArray⟩), IsV (.string ⟨(hmacL K l).toArray⟩), IsV (.string ⟨(hmacL K l).toArray⟩)] (by kernel_rfl) ?_ ?_ ?_
        · intro φ hφ v w1 w2 h hg
          simp only [List.mem_cons, List.not_mem_nil, or_false] at hφ
          rcases hφ with rfl | rfl | rfl | rfl | rfl | rfl | rfl | rfl | rfl | rfl
          all_goals first | exact h | exact RdV.gr h hg
        · refine ⟨?_, ?_, ?_, ?_, ?_, ?_, ?_, ?_, ?_, ?_, trivial⟩
          · intro a1 w1 hG hF
            exact s_old rfl (wants0 rfl) (.tmp 6) (.inr rfl) (.slice AO 64 cO) (hF.ol 6 (by kernel_rfl)) rfl
          · intro a1 w1 hG hF
            obtain ⟨_, e35, rfl⟩ := hF.dp 0 35 (by kernel_rfl)
            exact s_str rfl (wants0 rfl) 23 9 5 (.tmp 35) rfl Tryd.underlying23 Tryd.underlying5 Tryd.underlying9 _ _ _ (padL K 92) e35 (((Gr.drew wr).trans hG).rd hrO) rfl
          · intro a1 w1 hG hF
            exact s_old rfl (wants0 rfl) (.tmp 5) (.inr rfl) (.slice AI 64 cI) (hF.ol 5 (by kernel_rfl)) rfl
          · intro a1 w1 hG hF
            obtain ⟨_, e37, rfl⟩ := hF.dp 2 37 (by kernel_rfl)
            exact s_str rfl (wants0 rfl) 23 9 5 (.tmp 37) rfl Tryd.underlying23 Tryd.underlying5 Tryd.underlying9 _ _ _ (padL K 54) e37 (((Gr.drew wr).trans hG).rd hrI) rfl
          · intro a1 w1 hG hF
            exact s_old rfl (wants0 rfl) (.tmp 1) (.inr rfl) (.string ⟨(l).toArray⟩) (hF.ol 1 (by kernel_rfl)) rfl
          · intro a1 w1 hG hF
            obtain ⟨_, e38, rfl⟩ := hF.dp 3 38 (by kernel_rfl)
            obtain ⟨_, e39, rfl⟩ := hF.dp 4 39 (by kernel_rfl)
            exact s_is rfl (wants0 rfl) _ rfl (run_addS (by simp; omega) e38 e39)
          · intro a1 w1 hG hF
            obtain ⟨_, e40, rfl⟩ := hF.dp 5 40 (by kernel_rfl)
            exact s_call rfl (wants0 rfl) _ rfl _ _ (by simp only [execOp, resolve, invoke, List.map_toArray, List.map_cons, List.map_nil, e40]; go_simp) ((hS3.out w1).mono fun e w2 ⟨he, hb⟩ => ⟨_, he, rfl, hb⟩)
          · intro a1 w1 hG hF
            obtain ⟨_, e36, rfl⟩ := hF.dp 1 36 (by kernel_rfl)
            obtain ⟨_, e41, rfl⟩ := hF.dp 6 41 (by kernel_rfl)
            exact s_is rfl (wants0 rfl) _ rfl (run_addS (by simp) e36 e41)
          · intro a1 w1 hG hF
            obtain ⟨_, e42, rfl⟩ := hF.dp 7 42 (by kernel_rfl)
            exact s_call rfl (wants0 rfl) _ rfl _ _ (by simp only [execOp, resolve, invoke, List.map_toArray, List.map_cons, List.map_nil, e42]; go_simp) ((hS4.out w1).mono fun e w2 ⟨he, hb⟩ => ⟨_, he, rfl, hb⟩)
          · intro a1 w1 hG hF
            exact s_same rfl (wants0 rfl) (.tmp 43) (.inl rfl) (hF.dp 8 43 (by kernel_rfl))
        · intro vs w1 hG hf
          have z4 : vs 9 = .string ⟨(hmacL K l).toArray⟩ := hf.2.2.2.2.2.2.2.2.2.1
          clear hf
          simp only [putAll, Nat.zero_add, Nat.reduceAdd, z4]
          go_simp
          go_wp2_with fail
          go_ret
          exact ⟨rfl, hB.trans (((Gr.drew wr).trans hG).mono hB.size)⟩
end Go.Proofs.YtficbedibjgoeaaDoor

