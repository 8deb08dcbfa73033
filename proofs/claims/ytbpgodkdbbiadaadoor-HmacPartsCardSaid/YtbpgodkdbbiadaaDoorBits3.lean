/- The reference's Word and Put. -/
import Derived.Test.YtbpgodkdbbiadaaDoorBits2
namespace Go.Proofs.YtbpgodkdbbiadaaDoor
open Go.RowKit

set_option maxHeartbeats 400000 in
/-- The reference's Word, of at most eight bytes, the highest first. -/
theorem refWord_high (l : List UInt8) (hl : l.length ≤ 8) (w : World) :
    Calls Tryd.prog 16 #[.string ⟨l.toArray⟩, .bool true] w fun e w' => e = .returned (.int .u64 (beNat l : Nat)) ∧ w = w' := by
  obtain ⟨s, hs⟩ : ∃ s : ByteArray, s = ⟨l.toArray⟩ := ⟨_, rfl⟩
  have hsl : s.size = l.length := by rw [hs]; rfl
  rw [← hs]
  have HS := Lib.hid hs
  have HSL := Lib.hid hsl
  have hsz : s.size ≤ 8 := by omega
  clear hs hsl hl
  go_enter Tryd.func16, Tryd.ntmps16
  go_wp2
  go_loop [5, 6] (fun x i => ∃ k q : Nat, k ≤ s.size ∧ i = .int .i64 k ∧ x = .int .u64 q ∧ Hid (q = beNat (l.take k))) (fun _ i => s.size - (intOf i).toNat)
  case atStart => exact ⟨0, 0, Nat.zero_le _, rfl, rfl, rfl⟩
  case round =>
    obtain ⟨k, q, hk, rfl, rfl, hq⟩ := hrel
    by_cases hlt : k < s.size
    · obtain ⟨d, hd⟩ : ∃ x, s[k] = x := ⟨_, rfl⟩
      have hd2 : l[k]? = some d := by rw [← hd]; exact str_at HS.out hlt
      have hd1 := d.toNat_lt
      have hq1 : q < 72057594037927936 := by
        rw [hq.out]
        refine Nat.lt_of_lt_of_le (beNat_lt _) ?_
        have : 256 ^ (l.take k).length ≤ 256 ^ 7 := Nat.pow_le_pow_right (by omega) (by rw [List.length_take]; omega)
        omega
      have HQ : Hid (q * 256 + d.toNat = beNat (l.take (k + 1))) := by
        show _ = _
        rw [take_snoc_ l k d hd2, beNat_snoc, hq.out]
      obtain ⟨u, hu⟩ : ∃ u : UInt8, s[s.size - 1 - k] = u := ⟨_, rfl⟩
      clear hd2
      go_wp2
      go_round
      case rel => exact ⟨k + 1, _, by omega, by go_num, by go_num, HQ⟩
      case measure => simp [intOf]; omega
    · obtain rfl : k = s.size := by omega
      go_wp2
      go_ret
      rw [hq.out, List.take_of_length_le (by have := HSL.out; omega)]
      exact ⟨rfl, rfl⟩

set_option maxHeartbeats 400000 in
/-- The reference's Word, of at most eight bytes, the lowest first. -/
theorem refWord_low (l : List UInt8) (hl : l.length ≤ 8) (w : World) :
    Calls Tryd.prog 16 #[.string ⟨l.toArray⟩, .bool false] w fun e w' => e = .returned (.int .u64 (leNat l : Nat)) ∧ w = w' := by
  obtain ⟨s, hs⟩ : ∃ s : ByteArray, s = ⟨l.toArray⟩ := ⟨_, rfl⟩
  have hsl : s.size = l.length := by rw [hs]; rfl
  rw [← hs]
  have HS := Lib.hid hs
  have HSL := Lib.hid hsl
  have hsz : s.size ≤ 8 := by omega
  clear hs hsl hl
  go_enter Tryd.func16, Tryd.ntmps16
  go_wp2
  go_loop [5, 6] (fun x i => ∃ k q : Nat, k ≤ s.size ∧ i = .int .i64 k ∧ x = .int .u64 q ∧ Hid (q = beNat (l.reverse.take k))) (fun _ i => s.size - (intOf i).toNat)
  case atStart => exact ⟨0, 0, Nat.zero_le _, rfl, rfl, rfl⟩
  case round =>
    obtain ⟨k, q, hk, rfl, rfl, hq⟩ := hrel
    by_cases hlt : k < s.size
    · obtain ⟨d, hd⟩ : ∃ x, s[s.size - 1 - k] = x := ⟨_, rfl⟩
      have hd2 : l.reverse[k]? = some d := by rw [← hd, List.getElem?_reverse (by have := HSL.out; omega), ← HSL.out]; exact str_at HS.out (by omega)
      have hd1 := d.toNat_lt
      have hq1 : q < 72057594037927936 := by
        rw [hq.out]
        refine Nat.lt_of_lt_of_le (beNat_lt _) ?_
        have : 256 ^ (l.reverse.take k).length ≤ 256 ^ 7 := Nat.pow_le_pow_right (by omega) (by rw [List.length_take]; omega)
        omega
      have HQ : Hid (q * 256 + d.toNat = beNat (l.reverse.take (k + 1))) := by
        show _ = _
        rw [take_snoc_ _ k d hd2, beNat_snoc, hq.out]
      clear hd2
      go_wp2
      go_round
      case rel => exact ⟨k + 1, _, by omega, by go_num, by go_num, HQ⟩
      case measure => simp [intOf]; omega
    · obtain rfl : k = s.size := by omega
      go_wp2
      go_ret
      rw [hq.out, List.take_of_length_le (by have := HSL.out; simp; omega)]
      unfold beNat
      rw [List.reverse_reverse]
      exact ⟨rfl, rfl⟩

/-- The reference's bytes of a number. -/
def putL (high : Bool) (k x : Nat) : List UInt8 := if high then (leBytes k x).reverse else leBytes k x

theorem str_append (a b : List UInt8) : (⟨a.toArray⟩ : ByteArray) ++ ⟨b.toArray⟩ = ⟨(a ++ b).toArray⟩ := by
  apply ByteArray.ext
  rw [ByteArray.data_append]
  simp
theorem putL_snoc (high : Bool) (k x : Nat) : (if high then (⟨#[UInt8.ofNat (x / 256 ^ k)]⟩ : ByteArray) ++ ⟨(putL high k x).toArray⟩ else (⟨(putL high k x).toArray⟩ : ByteArray) ++ ⟨#[UInt8.ofNat (x / 256 ^ k)]⟩) = ⟨(putL high (k + 1) x).toArray⟩ := by
  have e1 : (⟨#[UInt8.ofNat (x / 256 ^ k)]⟩ : ByteArray) = ⟨[UInt8.ofNat (x / 256 ^ k)].toArray⟩ := rfl
  rw [e1, str_append, str_append]
  cases high
  · simp only [putL, leBytes_snoc, Bool.false_eq_true, if_false]
  · simp only [putL, leBytes_snoc, if_true, List.reverse_append, List.reverse_singleton]

set_option maxHeartbeats 400000 in
/-- The reference's Put. -/
theorem refPut_any (x : Nat) (hx : x < 18446744073709551616) (n : Int) (high : Bool) (w : World) :
    Calls Tryd.prog 15 #[.int .u64 x, .int .i64 n, .bool high] w fun e w' => e = .returned (.string ⟨(putL high (min n 64).toNat x).toArray⟩) ∧ Below w.heap.size w w' := by
  have hm64 : (min n 64).toNat ≤ 64 := by omega
  obtain ⟨m, hm⟩ : ∃ m, (min n 64).toNat = m := ⟨_, rfl⟩
  have hlt1 : ∀ k : Nat, k < m → (k : Int) < n ∧ (k : Int) < 64 := by omega
  have hlt2 : (m : Int) < n → 64 ≤ (m : Int) := by omega
  rw [hm] at hm64 ⊢
  have HL1 := Lib.hid hlt1
  have HL2 := Lib.hid hlt2
  clear hm hlt1 hlt2
  go_enter Tryd.func15, Tryd.ntmps15
  go_wp2
  go_loopw [0, 7, 8] (fun q s i wr => ∃ k q0 : Nat, ∃ t : ByteArray, k ≤ m ∧ i = .int .i64 k ∧ q = .int .u64 q0 ∧ Hid (q0 = x / 256 ^ k) ∧ q0 < 18446744073709551616 ∧
      s = .string t ∧ Hid (t = ⟨(putL high k x).toArray⟩) ∧ Below w.heap.size w wr)
    (fun _ _ i _ => m - (intOf i).toNat)
  case atStart => exact ⟨0, x, _, Nat.zero_le _, rfl, rfl, by simp [Hid], hx, rfl, by cases high <;> rfl, Below.refl _ _⟩
  case round =>
    obtain ⟨k, q, t, hk, rfl, rfl, hq, hqb, rfl, ht, hbw⟩ := hrel
    have hbs := hbw.size
    by_cases hlt : k < m
    · obtain ⟨h1, h2⟩ := HL1.out k hlt
      have hcv := run_str (P := Tryd.prog) (A := some ⟨wr.heap.size, 0, none⟩) (n := 1) (c := 1) (l := [UInt8.ofNat q]) (wr.alloc (.cells #[.int .u8 ((q : Int) % 256)] 5)) Tryd.underlying22 Tryd.underlying5 Tryd.underlying9
        (by
          have := Rd.of_row (w := wr.alloc (.cells #[.int .u8 ((q : Int) % 256)] 5)) (heap_alloc_new wr _) 0 1 (by simp)
          simpa [u8s] using this)
      have hts : t.size = k := by rw [ht.out]; unfold putL; split <;> simp [ByteArray.size]
      have HT : Hid ((if high then (⟨#[UInt8.ofNat q]⟩ : ByteArray) ++ t else t ++ ⟨#[UInt8.ofNat q]⟩) = ⟨(putL high (k + 1) x).toArray⟩) := by
        show _ = _
        rw [ht.out, hq.out]
        exact putL_snoc high k x
      have hts1 : t.size ≤ 63 := by omega
      have HQ : Hid (q / 256 = x / 256 ^ (k + 1)) := by
        show _ = _
        rw [hq.out, Nat.div_div_eq_div_mul, Nat.pow_succ]
      clear hts
      cases high
      all_goals
        go_wp2
        go_roundw
        case rel => exact ⟨k + 1, q / 256, _, by omega, by go_num, by go_num, HQ, by omega, rfl, HT, hbw.alloc hbs _⟩
        case measure => simp [intOf]; omega
    · obtain rfl : k = m := by omega
      by_cases h1 : (k : Int) < n
      · have h2 := HL2.out h1
        go_wp2
        go_ret
        rw [ht.out]
        exact ⟨rfl, hbw⟩
      · go_wp2
        go_ret
        rw [ht.out]
        exact ⟨rfl, hbw⟩
end Go.Proofs.YtbpgodkdbbiadaaDoor
