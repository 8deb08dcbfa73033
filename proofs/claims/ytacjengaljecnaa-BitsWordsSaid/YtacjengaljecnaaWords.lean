/- The walk of the law BitsWords: four bytes, eight, other counts. -/
import Derived.Test.YtacjengaljecnaaBits3
import Derived.Test.YtacjengaljecnaaLaw01
namespace Go.Proofs.Ytacjengaljecnaa
open Go.RowKit

@[local go_sem] theorem yielded_undefW : yielded.match_1 (motive := fun _ => Option Bool) (some undef) (fun b => some b) (fun _ => none) = none := rfl

/-- Two slices of bytes that read as strings, in one world. -/
abbrev TwoStr (P : Program) (src dst : TypeId) (w : World) (A B : Option Addr) (n m c d : Nat) (k l : List UInt8) : Prop :=
  (convert src dst (.slice A n c)).run P w = .ok (.string ⟨k.toArray⟩) w ∧ (convert src dst (.slice B m d)).run P w = .ok (.string ⟨l.toArray⟩) w ∧ Rd w A n (u8s k) ∧ Rd w B m (u8s l)
theorem TwoStr.of {P : Program} {src dst e : TypeId} {w : World} {A B : Option Addr} {n m : Nat} (c d : Nat) {k l : List UInt8} (hs : P.underlying src = some (.slice e)) (he : P.underlying e = some (.int .u8)) (hd : P.underlying dst = some .string)
    (h1 : Rd w A n (u8s k)) (h2 : Rd w B m (u8s l)) : TwoStr P src dst w A B n m c d k l := ⟨run_str w hs he hd h1, run_str w hs he hd h2, h1, h2⟩

set_option maxRecDepth 100000 in
set_option maxHeartbeats 4000000 in
/-- The law BitsWords, of four bytes. -/
theorem words_4 (A : Option Addr) (n c : Nat) (b : List UInt8) (x : Nat) (hx : x < 18446744073709551616) (size : Int) (w : World) (hnc : n ≤ c) (hcm : c ≤ maxLen) (hb : Rd w A n (u8s b))
    (hk : min (n : Int) 12 = 4) :
    Calls Try.prog 7 #[.slice A n c, .int .u64 x, .int .i64 size] w fun e w' => e = .returned (.bool true) ∧ Below w.heap.size w w' := by
  unfold maxLen at hcm
  obtain ⟨i0, hi0, hz0, hz1, hz2⟩ := info_parts Try.info5
  obtain ⟨l, hl⟩ : ∃ l, l = b.take 4 := ⟨_, rfl⟩
  have hb4 : Rd w A 4 (u8s l) := by rw [hl, ← u8s_take]; exact hb.take (by omega)
  clear hl hb
  have h4n : (4 : Int) ≤ n := by omega
  have hll : l.length = 4 := by simpa using hb4.1
  have HLL := Lib.hid hll
  have wl : IntKind.u64.wrap (leNat l : Nat) = (leNat l : Nat) := by have h := leNat_lt l; rw [hll] at h; rw [IntKind.wrap_u64]; omega
  have wh : IntKind.u64.wrap (beNat l : Nat) = (beNat l : Nat) := by have h := beNat_lt l; rw [hll] at h; rw [IntKind.wrap_u64]; omega
  clear hll
  go_enter Try.func7, Try.ntmps7
  go_wp2_with (at_builtin; go_must (refine wpList_clip w rfl (.tmp 22) (.tmp 27) 35 rfl 5 i0 (.int .u8 0) Try.underlying35 hi0 hz0 hz1 hz2 rfl _ rfl rfl A 4 c l rfl hb4 (by omega) ?_); intro v1 w1 ho1 hB1)
  obtain ⟨A1, c1, rfl, hc1, _⟩ := own_form ho1
  have hr1 := Rd.of_own ho1
  have hcv1 := run_str (P := Try.prog) (c := c1) w1 Try.underlying35 Try.underlying5 Try.underlying9 hr1
  clear ho1
  go_simp
  go_wp2_with fail
  refine (low32_any _ _ _ _ hr1).mono ?_
  rintro e w2 ⟨rfl, rfl⟩
  go_wp2_with fail
  refine (high32_any _ _ _ _ hr1).mono ?_
  rintro e w2 ⟨rfl, rfl⟩
  go_wp2_with fail
  refine (low64_no _ 4 _ (by decide) _).mono ?_
  rintro e w2 ⟨rfl, rfl⟩
  go_wp2_with fail
  refine (high64_no _ 4 _ (by decide) _).mono ?_
  rintro e w2 ⟨rfl, rfl⟩
  clear hcv1
  go_wp2_with fail
  refine (turns_any _).mono ?_
  rintro e w2 ⟨rfl, hB2⟩
  have hr2 := hr1.below hB2
  have hcv2 := run_str (P := Try.prog) (c := c1) w2 Try.underlying35 Try.underlying5 Try.underlying9 hr2
  go_wp2_with fail
  refine (refWord_low l (by have := HLL.out; omega) _).mono ?_
  rintro e w3 ⟨rfl, rfl⟩
  go_wp2_with fail
  refine (refWord_high l (by have := HLL.out; omega) _).mono ?_
  rintro e w3 ⟨rfl, rfl⟩
  clear hcv2
  go_wp2_with fail
  refine (putLow_any x hx size _).mono ?_
  rintro e w3 ⟨v3, rfl, ho3, hB3⟩
  go_wp2_with fail
  refine (putHigh_any x hx size _).mono ?_
  rintro e w4 ⟨v4, rfl, ho4, hB4⟩
  go_wp2_with fail
  refine (putLow_k x 8 hx (by omega) _).mono ?_
  rintro e w5 ⟨v5, rfl, ho5, hB5⟩
  obtain ⟨g5, c5, rfl, hc5, _, _, hr5⟩ := own_bytes ho5 (by omega)
  have hr5' := hr5 0 8 (by omega)
  rw [List.drop_zero, List.take_of_length_le (by simp)] at hr5'
  go_wp2_with fail
  refine (low64_any _ _ _ _ hr5').mono ?_
  rintro e w6 ⟨rfl, rfl⟩
  rw [leNat_leBytes, Nat.mod_eq_of_lt (show x < 256 ^ 8 by omega)]
  go_wp2_with fail
  refine (putHigh_k x 8 hx (by omega) _).mono ?_
  rintro e w6 ⟨v6, rfl, ho6, hB6⟩
  obtain ⟨g6, c6, rfl, hc6, _, _, hr6⟩ := own_bytes ho6 (by omega)
  have hr6' := hr6 0 8 (by omega)
  rw [List.drop_zero, List.take_of_length_le (by simp)] at hr6'
  go_wp2_with fail
  refine (high64_any _ _ _ _ hr6').mono ?_
  rintro e w7 ⟨rfl, rfl⟩
  rw [beNat_leBytes, Nat.mod_eq_of_lt (show x < 256 ^ 8 by omega)]
  obtain ⟨A3, c3, rfl, hc3, _⟩ := own_form ho3
  obtain ⟨A4, c4, rfl, hc4, _⟩ := own_form ho4
  have hr3 := ((((Rd.of_own ho3).below hB4).below hB5).below hB6).drew
  have hr4 := (((Rd.of_own ho4).below hB5).below hB6).drew
  have hS := TwoStr.of (P := Try.prog) c3 c4 Try.underlying35 Try.underlying5 Try.underlying9 hr3 hr4
  clear hr3 hr4 ho3 ho4 ho5 ho6 hr5 hr6 hr5' hr6' hr1 hr2 hb4
  have HPF : Hid (∀ w, Calls Try.prog 24 #[.int .u64 x, .int .i64 size, .bool false] w fun e w' => e = .returned (.string ⟨(leBytes (min size 64).toNat x).toArray⟩) ∧ Below w.heap.size w w') := fun w => refPut_any x hx size false w
  have HPT : Hid (∀ w, Calls Try.prog 24 #[.int .u64 x, .int .i64 size, .bool true] w fun e w' => e = .returned (.string ⟨(leBytes (min size 64).toNat x).reverse.toArray⟩) ∧ Below w.heap.size w w') := fun w => refPut_any x hx size true w
  have HS := Lib.hid hS
  have hB16 := ((hB1.trans (hB2.mono hB1.size)).trans (hB3.mono (hB1.trans (hB2.mono hB1.size)).size))
  have hB26 := hB16.trans (hB4.mono hB16.size)
  have hB36 := hB26.trans (hB5.mono hB26.size)
  have hB46 := (hB36.trans (hB6.mono hB36.size)).drew
  clear hB1 hB2 hB3 hB4 hB5 hB6 hB16 hB26 hB36 hS
  go_wp2_with fail
  go_region_held3 (fun w' => (convert 35 9 (.slice A3 (min size 64).toNat c3)).run Try.prog w' = .ok (.string ⟨(leBytes (min size 64).toNat x).toArray⟩) w' ∧ (convert 35 9 (.slice A4 (min size 64).toNat c4)).run Try.prog w' = .ok (.string ⟨(leBytes (min size 64).toNat x).reverse.toArray⟩) w' ∧ Rd w' A3 (min size 64).toNat (u8s (leBytes (min size 64).toNat x)) ∧ Rd w' A4 (min size 64).toNat (u8s (leBytes (min size 64).toNat x).reverse))
    (first | exact HS.out | exact HS8.out | exact HS9.out)
    (first | (go_at_call_of 24 (Value.bool false); refine (HPF.out _).mono ?_; rintro e w8 ⟨rfl, hB8⟩; have HS8 := Lib.hid (TwoStr.of (P := Try.prog) c3 c4 Try.underlying35 Try.underlying5 Try.underlying9 (HS.out.2.2.1.below hB8) (HS.out.2.2.2.below hB8))) | (go_at_call_of 24 (Value.bool true); refine (HPT.out _).mono ?_; rintro e w9 ⟨rfl, hB9⟩; have HS9 := Lib.hid (TwoStr.of (P := Try.prog) c3 c4 Try.underlying35 Try.underlying5 Try.underlying9 (HS8.out.2.2.1.below hB9) (HS8.out.2.2.2.below hB9))))
  all_goals
    go_wp2_with fail
    go_ret
    have hB56 := hB46.trans (hB8.mono hB46.size)
    exact ⟨rfl, hB56.trans (hB9.mono hB56.size)⟩
set_option maxRecDepth 100000 in
set_option maxHeartbeats 4000000 in
/-- The law BitsWords, of eight bytes. -/
theorem words_8 (A : Option Addr) (n c : Nat) (b : List UInt8) (x : Nat) (hx : x < 18446744073709551616) (size : Int) (w : World) (hnc : n ≤ c) (hcm : c ≤ maxLen) (hb : Rd w A n (u8s b))
    (hk : min (n : Int) 12 = 8) :
    Calls Try.prog 7 #[.slice A n c, .int .u64 x, .int .i64 size] w fun e w' => e = .returned (.bool true) ∧ Below w.heap.size w w' := by
  unfold maxLen at hcm
  obtain ⟨i0, hi0, hz0, hz1, hz2⟩ := info_parts Try.info5
  obtain ⟨l, hl⟩ : ∃ l, l = b.take 8 := ⟨_, rfl⟩
  have hb4 : Rd w A 8 (u8s l) := by rw [hl, ← u8s_take]; exact hb.take (by omega)
  clear hl hb
  have h4n : (8 : Int) ≤ n := by omega
  have hll : l.length = 8 := by simpa using hb4.1
  have HLL := Lib.hid hll
  clear hll
  go_enter Try.func7, Try.ntmps7
  go_wp2_with (at_builtin; go_must (refine wpList_clip w rfl (.tmp 22) (.tmp 27) 35 rfl 5 i0 (.int .u8 0) Try.underlying35 hi0 hz0 hz1 hz2 rfl _ rfl rfl A 8 c l rfl hb4 (by omega) ?_); intro v1 w1 ho1 hB1)
  obtain ⟨A1, c1, rfl, hc1, _⟩ := own_form ho1
  have hr1 := Rd.of_own ho1
  have hcv1 := run_str (P := Try.prog) (c := c1) w1 Try.underlying35 Try.underlying5 Try.underlying9 hr1
  clear ho1
  go_simp
  go_wp2_with fail
  refine (low32_no _ 8 _ (by decide) _).mono ?_
  rintro e w2 ⟨rfl, rfl⟩
  go_wp2_with fail
  refine (high32_no _ 8 _ (by decide) _).mono ?_
  rintro e w2 ⟨rfl, rfl⟩
  go_wp2_with fail
  refine (low64_any _ _ _ _ hr1).mono ?_
  rintro e w2 ⟨rfl, rfl⟩
  go_wp2_with fail
  refine (high64_any _ _ _ _ hr1).mono ?_
  rintro e w2 ⟨rfl, rfl⟩
  clear hcv1
  go_wp2_with fail
  refine (turns_any _).mono ?_
  rintro e w2 ⟨rfl, hB2⟩
  have hr2 := hr1.below hB2
  have hcv2 := run_str (P := Try.prog) (c := c1) w2 Try.underlying35 Try.underlying5 Try.underlying9 hr2
  go_wp2_with fail
  refine (refWord_low l (by have := HLL.out; omega) _).mono ?_
  rintro e w3 ⟨rfl, rfl⟩
  go_wp2_with fail
  refine (refWord_high l (by have := HLL.out; omega) _).mono ?_
  rintro e w3 ⟨rfl, rfl⟩
  clear hcv2
  go_wp2_with fail
  refine (putLow_any x hx size _).mono ?_
  rintro e w3 ⟨v3, rfl, ho3, hB3⟩
  go_wp2_with fail
  refine (putHigh_any x hx size _).mono ?_
  rintro e w4 ⟨v4, rfl, ho4, hB4⟩
  go_wp2_with fail
  refine (putLow_k x 8 hx (by omega) _).mono ?_
  rintro e w5 ⟨v5, rfl, ho5, hB5⟩
  obtain ⟨g5, c5, rfl, hc5, _, _, hr5⟩ := own_bytes ho5 (by omega)
  have hr5' := hr5 0 8 (by omega)
  rw [List.drop_zero, List.take_of_length_le (by simp)] at hr5'
  go_wp2_with fail
  refine (low64_any _ _ _ _ hr5').mono ?_
  rintro e w6 ⟨rfl, rfl⟩
  rw [leNat_leBytes, Nat.mod_eq_of_lt (show x < 256 ^ 8 by omega)]
  go_wp2_with fail
  refine (putHigh_k x 8 hx (by omega) _).mono ?_
  rintro e w6 ⟨v6, rfl, ho6, hB6⟩
  obtain ⟨g6, c6, rfl, hc6, _, _, hr6⟩ := own_bytes ho6 (by omega)
  have hr6' := hr6 0 8 (by omega)
  rw [List.drop_zero, List.take_of_length_le (by simp)] at hr6'
  go_wp2_with fail
  refine (high64_any _ _ _ _ hr6').mono ?_
  rintro e w7 ⟨rfl, rfl⟩
  rw [beNat_leBytes, Nat.mod_eq_of_lt (show x < 256 ^ 8 by omega)]
  obtain ⟨A3, c3, rfl, hc3, _⟩ := own_form ho3
  obtain ⟨A4, c4, rfl, hc4, _⟩ := own_form ho4
  have hr3 := ((((Rd.of_own ho3).below hB4).below hB5).below hB6).drew
  have hr4 := (((Rd.of_own ho4).below hB5).below hB6).drew
  have hS := TwoStr.of (P := Try.prog) c3 c4 Try.underlying35 Try.underlying5 Try.underlying9 hr3 hr4
  clear hr3 hr4 ho3 ho4 ho5 ho6 hr5 hr6 hr5' hr6' hr1 hr2 hb4
  have HPF : Hid (∀ w, Calls Try.prog 24 #[.int .u64 x, .int .i64 size, .bool false] w fun e w' => e = .returned (.string ⟨(leBytes (min size 64).toNat x).toArray⟩) ∧ Below w.heap.size w w') := fun w => refPut_any x hx size false w
  have HPT : Hid (∀ w, Calls Try.prog 24 #[.int .u64 x, .int .i64 size, .bool true] w fun e w' => e = .returned (.string ⟨(leBytes (min size 64).toNat x).reverse.toArray⟩) ∧ Below w.heap.size w w') := fun w => refPut_any x hx size true w
  have HS := Lib.hid hS
  have hB16 := ((hB1.trans (hB2.mono hB1.size)).trans (hB3.mono (hB1.trans (hB2.mono hB1.size)).size))
  have hB26 := hB16.trans (hB4.mono hB16.size)
  have hB36 := hB26.trans (hB5.mono hB26.size)
  have hB46 := (hB36.trans (hB6.mono hB36.size)).drew
  clear hB1 hB2 hB3 hB4 hB5 hB6 hB16 hB26 hB36 hS
  go_wp2_with fail
  go_region_held3 (fun w' => (convert 35 9 (.slice A3 (min size 64).toNat c3)).run Try.prog w' = .ok (.string ⟨(leBytes (min size 64).toNat x).toArray⟩) w' ∧ (convert 35 9 (.slice A4 (min size 64).toNat c4)).run Try.prog w' = .ok (.string ⟨(leBytes (min size 64).toNat x).reverse.toArray⟩) w' ∧ Rd w' A3 (min size 64).toNat (u8s (leBytes (min size 64).toNat x)) ∧ Rd w' A4 (min size 64).toNat (u8s (leBytes (min size 64).toNat x).reverse))
    (first | exact HS.out | exact HS8.out | exact HS9.out)
    (first | (go_at_call_of 24 (Value.bool false); refine (HPF.out _).mono ?_; rintro e w8 ⟨rfl, hB8⟩; have HS8 := Lib.hid (TwoStr.of (P := Try.prog) c3 c4 Try.underlying35 Try.underlying5 Try.underlying9 (HS.out.2.2.1.below hB8) (HS.out.2.2.2.below hB8))) | (go_at_call_of 24 (Value.bool true); refine (HPT.out _).mono ?_; rintro e w9 ⟨rfl, hB9⟩; have HS9 := Lib.hid (TwoStr.of (P := Try.prog) c3 c4 Try.underlying35 Try.underlying5 Try.underlying9 (HS8.out.2.2.1.below hB9) (HS8.out.2.2.2.below hB9))))
  all_goals
    go_wp2_with fail
    go_ret
    have hB56 := hB46.trans (hB8.mono hB46.size)
    exact ⟨rfl, hB56.trans (hB9.mono hB56.size)⟩
set_option maxRecDepth 100000 in
set_option maxHeartbeats 4000000 in
/-- The law BitsWords, of other counts of bytes. -/
theorem words_o (A : Option Addr) (n c : Nat) (b : List UInt8) (x : Nat) (hx : x < 18446744073709551616) (size : Int) (w : World) (hnc : n ≤ c) (hcm : c ≤ maxLen) (hb : Rd w A n (u8s b))
    (k : Nat) (hk : min (n : Int) 12 = k) (h4 : (k : Int) ≠ 4) (h8 : (k : Int) ≠ 8) :
    Calls Try.prog 7 #[.slice A n c, .int .u64 x, .int .i64 size] w fun e w' => e = .returned (.bool true) ∧ Below w.heap.size w w' := by
  unfold maxLen at hcm
  obtain ⟨i0, hi0, hz0, hz1, hz2⟩ := info_parts Try.info5
  obtain ⟨l, hl⟩ : ∃ l, l = b.take k := ⟨_, rfl⟩
  have hb4 : Rd w A k (u8s l) := by rw [hl, ← u8s_take]; exact hb.take (by omega)
  clear hl hb
  have h4n : (k : Int) ≤ n := by omega
  have hk12 : k ≤ 12 := by omega
  have e4 : ((k : Int) == 4) = false := by simpa using h4
  have e8 : ((k : Int) == 8) = false := by simpa using h8
  have hll : l.length = k := by simpa using hb4.1
  have HLL := Lib.hid hll
  clear hll
  go_enter Try.func7, Try.ntmps7
  go_wp2_with (at_builtin; go_must (refine wpList_clip w rfl (.tmp 22) (.tmp 27) 35 rfl 5 i0 (.int .u8 0) Try.underlying35 hi0 hz0 hz1 hz2 rfl _ rfl rfl A k c l rfl hb4 (by omega) ?_); intro v1 w1 ho1 hB1)
  obtain ⟨A1, c1, rfl, hc1, _⟩ := own_form ho1
  have hr1 := Rd.of_own ho1
  have hcv1 := run_str (P := Try.prog) (c := c1) w1 Try.underlying35 Try.underlying5 Try.underlying9 hr1
  clear ho1
  go_simp
  go_wp2_with fail
  refine (low32_no _ k _ h4 _).mono ?_
  rintro e w2 ⟨rfl, rfl⟩
  go_wp2_with fail
  refine (high32_no _ k _ h4 _).mono ?_
  rintro e w2 ⟨rfl, rfl⟩
  go_wp2_with fail
  refine (low64_no _ k _ h8 _).mono ?_
  rintro e w2 ⟨rfl, rfl⟩
  go_wp2_with fail
  refine (high64_no _ k _ h8 _).mono ?_
  rintro e w2 ⟨rfl, rfl⟩
  clear hcv1
  go_wp2_with fail
  refine (turns_any _).mono ?_
  rintro e w2 ⟨rfl, hB2⟩
  have hr2 := hr1.below hB2
  have hcv2 := run_str (P := Try.prog) (c := c1) w2 Try.underlying35 Try.underlying5 Try.underlying9 hr2
  go_wp2_with fail
  clear hcv2
  go_wp2_with fail
  refine (putLow_any x hx size _).mono ?_
  rintro e w3 ⟨v3, rfl, ho3, hB3⟩
  go_wp2_with fail
  refine (putHigh_any x hx size _).mono ?_
  rintro e w4 ⟨v4, rfl, ho4, hB4⟩
  go_wp2_with fail
  refine (putLow_k x 8 hx (by omega) _).mono ?_
  rintro e w5 ⟨v5, rfl, ho5, hB5⟩
  obtain ⟨g5, c5, rfl, hc5, _, _, hr5⟩ := own_bytes ho5 (by omega)
  have hr5' := hr5 0 8 (by omega)
  rw [List.drop_zero, List.take_of_length_le (by simp)] at hr5'
  go_wp2_with fail
  refine (low64_any _ _ _ _ hr5').mono ?_
  rintro e w6 ⟨rfl, rfl⟩
  rw [leNat_leBytes, Nat.mod_eq_of_lt (show x < 256 ^ 8 by omega)]
  go_wp2_with fail
  refine (putHigh_k x 8 hx (by omega) _).mono ?_
  rintro e w6 ⟨v6, rfl, ho6, hB6⟩
  obtain ⟨g6, c6, rfl, hc6, _, _, hr6⟩ := own_bytes ho6 (by omega)
  have hr6' := hr6 0 8 (by omega)
  rw [List.drop_zero, List.take_of_length_le (by simp)] at hr6'
  go_wp2_with fail
  refine (high64_any _ _ _ _ hr6').mono ?_
  rintro e w7 ⟨rfl, rfl⟩
  rw [beNat_leBytes, Nat.mod_eq_of_lt (show x < 256 ^ 8 by omega)]
  obtain ⟨A3, c3, rfl, hc3, _⟩ := own_form ho3
  obtain ⟨A4, c4, rfl, hc4, _⟩ := own_form ho4
  have hr3 := ((((Rd.of_own ho3).below hB4).below hB5).below hB6).drew
  have hr4 := (((Rd.of_own ho4).below hB5).below hB6).drew
  have hS := TwoStr.of (P := Try.prog) c3 c4 Try.underlying35 Try.underlying5 Try.underlying9 hr3 hr4
  clear hr3 hr4 ho3 ho4 ho5 ho6 hr5 hr6 hr5' hr6' hr1 hr2 hb4
  have HPF : Hid (∀ w, Calls Try.prog 24 #[.int .u64 x, .int .i64 size, .bool false] w fun e w' => e = .returned (.string ⟨(leBytes (min size 64).toNat x).toArray⟩) ∧ Below w.heap.size w w') := fun w => refPut_any x hx size false w
  have HPT : Hid (∀ w, Calls Try.prog 24 #[.int .u64 x, .int .i64 size, .bool true] w fun e w' => e = .returned (.string ⟨(leBytes (min size 64).toNat x).reverse.toArray⟩) ∧ Below w.heap.size w w') := fun w => refPut_any x hx size true w
  have HS := Lib.hid hS
  have hB16 := ((hB1.trans (hB2.mono hB1.size)).trans (hB3.mono (hB1.trans (hB2.mono hB1.size)).size))
  have hB26 := hB16.trans (hB4.mono hB16.size)
  have hB36 := hB26.trans (hB5.mono hB26.size)
  have hB46 := (hB36.trans (hB6.mono hB36.size)).drew
  clear hB1 hB2 hB3 hB4 hB5 hB6 hB16 hB26 hB36 hS
  go_wp2_with fail
  go_region_held3 (fun w' => (convert 35 9 (.slice A3 (min size 64).toNat c3)).run Try.prog w' = .ok (.string ⟨(leBytes (min size 64).toNat x).toArray⟩) w' ∧ (convert 35 9 (.slice A4 (min size 64).toNat c4)).run Try.prog w' = .ok (.string ⟨(leBytes (min size 64).toNat x).reverse.toArray⟩) w' ∧ Rd w' A3 (min size 64).toNat (u8s (leBytes (min size 64).toNat x)) ∧ Rd w' A4 (min size 64).toNat (u8s (leBytes (min size 64).toNat x).reverse))
    (first | exact HS.out | exact HS8.out | exact HS9.out)
    (first | (go_at_call_of 24 (Value.bool false); refine (HPF.out _).mono ?_; rintro e w8 ⟨rfl, hB8⟩; have HS8 := Lib.hid (TwoStr.of (P := Try.prog) c3 c4 Try.underlying35 Try.underlying5 Try.underlying9 (HS.out.2.2.1.below hB8) (HS.out.2.2.2.below hB8))) | (go_at_call_of 24 (Value.bool true); refine (HPT.out _).mono ?_; rintro e w9 ⟨rfl, hB9⟩; have HS9 := Lib.hid (TwoStr.of (P := Try.prog) c3 c4 Try.underlying35 Try.underlying5 Try.underlying9 (HS8.out.2.2.1.below hB9) (HS8.out.2.2.2.below hB9))))
  all_goals
    go_wp2_with fail
    go_ret
    have hB56 := hB46.trans (hB8.mono hB46.size)
    exact ⟨rfl, hB56.trans (hB9.mono hB56.size)⟩

/-- The law BitsWords. -/
theorem law_words (A : Option Addr) (n c : Nat) (b : List UInt8) (x : Nat) (hx : x < 18446744073709551616) (size : Int) (w : World) (hnc : n ≤ c) (hcm : c ≤ maxLen) (hb : Rd w A n (u8s b)) :
    Calls Try.prog 7 #[.slice A n c, .int .u64 x, .int .i64 size] w fun e w' => e = .returned (.bool true) ∧ Below w.heap.size w w' := by
  by_cases h4 : min (n : Int) 12 = 4
  · exact words_4 A n c b x hx size w hnc hcm hb h4
  · by_cases h8 : min (n : Int) 12 = 8
    · exact words_8 A n c b x hx size w hnc hcm hb h8
    · exact words_o A n c b x hx size w hnc hcm hb (min n 12) (by omega) (by omega) (by omega)
end Go.Proofs.Ytacjengaljecnaa
