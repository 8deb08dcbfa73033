import Derived.Test.YtbpgodkdbbiadaaDoorRows
import Derived.Test.YtbpgodkdbbiadaaDoorPlain
import Derived.Test.YtbpgodkdbbiadaaDoorBase
import Derived.WalkKit
import Derived.WalkSpells
import Derived.WalkLawsBesides
import Derived.Lib.MinMax
namespace Go.Proofs.YtbpgodkdbbiadaaDoor
open Go.RowKit

set_option maxHeartbeats 400000 in
theorem left_any (x : UInt32) (n : Int) (w : World) :
    Calls Tryd.prog 34 #[.int .u32 x.toNat, .int .i64 n] w fun e w' => e = .returned (.int .u32 (leftU x n).toNat) ∧ w = w' := by
  obtain ⟨k, hk, e⟩ : ∃ k : Nat, (k < 32 ∧ k = (n % 32).toNat) ∧ (IntKind.u64.wrap n).tmod 32 = (k : Int) := by
    refine ⟨(n % 32).toNat, ⟨by omega, rfl⟩, ?_⟩
    rw [IntKind.wrap_u64, Int.tmod_eq_emod_of_nonneg (by omega)]
    omega
  obtain ⟨hk, hkn⟩ := hk
  have HK : Hid (leftU x n = rotl x k) := by show _ = _; rw [leftU, ← hkn]
  clear hkn
  have HR : Hid (_ = _) := or_rot x k hk
  go_enter Tryd.func34, Tryd.ntmps34
  go_wp2
  go_ret
  exact ⟨by rw [HK.out, ← HR.out]; rfl, rfl⟩

theorem Tryd.info5 : (Tryd.prog.info? 5).map (fun i => (i.zero, i.size, i.bytes)) = some (some (.int .u8 0), 1, 1) := by kernel_rfl

set_option maxHeartbeats 400000 in
theorem putLow_any (x : Nat) (hx : x < 18446744073709551616) (n : Int) (w : World) :
    Calls Tryd.prog 26 #[.int .u64 x, .int .i64 n] w fun e w' => ∃ v, e = .returned v ∧ 
      w'.ownsRow w.heap.size 5 1 v (min n 64).toNat (u8s (leBytes (min n 64).toNat x)) ∧ Below w.heap.size w w' := by
  obtain ⟨i0, hi0, hz0, hz1, hz2⟩ := info_parts Tryd.info5
  have hm64 : (min n 64).toNat ≤ 64 := by omega
  go_enter Tryd.func26, Tryd.ntmps26
  go_wp2
  go_loopw [0, 5, 8] (fun q v i wr => ∃ k q0 : Nat, k ≤ (min n 64).toNat ∧ i = .int .i64 k ∧ q = .int .u64 q0 ∧ Hid (q0 = x / 256 ^ k) ∧ q0 < 18446744073709551616 ∧
      wr.ownsRow w.heap.size 5 1 v k (u8s (leBytes k x)) ∧ Below w.heap.size w wr)
    (fun _ _ i _ => (min n 64).toNat - (intOf i).toNat)
  case atStart => exact ⟨0, x, Nat.zero_le _, rfl, rfl, by simp [Hid], hx, World.ownsRow_nil _ _ _ _, Below.refl _ _⟩
  case round =>
    obtain ⟨k, q, hk, rfl, rfl, hq, hqb, hown, hbw⟩ := hrel
    have hbs := hbw.size
    go_wp2_with (at_builtin; go_must (refine wpList_app1 wr rfl (.tmp 10) (.tmp 13) 22 rfl w.heap.size 5 i0 (.int .u8 0) 1 Tryd.underlying22 hi0 hz0 hz1 hz2 rfl u5 k _ rfl hown _ (.int .u8 (UInt8.ofNat q).toNat) rfl (by simp) rfl (by omega) (by unfold maxLen; omega) hbs ?_); intro v' w1 hA)
    · have hlt : (k : Int) < min n 64 := by assumption
      have hB := hbw.trans (hA.below hown hbs)
      have ho := hA.own
      have HE : Hid (u8s (leBytes (k + 1) x) = u8s (leBytes k x) ++ [.int .u8 (UInt8.ofNat q).toNat]) := by
        show _ = _
        rw [leBytes_snoc, u8s_append, u8s_one, hq.out]
      have HQ : Hid (q / 256 = x / 256 ^ (k + 1)) := by
        show _ = _
        rw [hq.out, Nat.div_div_eq_div_mul, Nat.pow_succ]
      clear hA hown hbw
      go_wp2
      go_roundw
      case rel => exact ⟨k + 1, q / 256, by omega, by go_num, by go_num, HQ, by omega, by rw [HE.out]; exact ho, hB⟩
      case measure => simp [intOf]; omega
    · have hge : min n 64 ≤ (k : Int) := by assumption
      obtain rfl : k = (min n 64).toNat := by omega
      go_ret
      exact ⟨_, rfl, hown, hbw⟩

/-- What stands at each place when k pairs have been swapped. -/
def Swapped (xs ys : List UInt8) (n k : Nat) : Prop := ys.length = n ∧ ∀ t, t < n → ys[t]? = if t < k ∨ n - k ≤ t then xs[n - 1 - t]? else xs[t]?

theorem swapped_next {l ys : List UInt8} {n k : Nat} {u q : UInt8} (h : Swapped l ys n k) (hl : l.length = n) (hk : 2 * k + 1 < n) (hu : ys[k]? = some u) (hq : ys[n - 1 - k]? = some q) :
    Swapped l ((ys.set k q).set (n - 1 - k) u) n (k + 1) := by
  refine ⟨by simp [h.1], fun t ht => ?_⟩
  have h1 := h.2 k (by omega)
  have h2 := h.2 (n - 1 - k) (by omega)
  have h3 := h.2 t ht
  have hl2 := h.1
  rw [if_neg (by omega)] at h1 h2
  rw [hu] at h1
  rw [hq] at h2
  rw [List.getElem?_set]
  by_cases e1 : n - 1 - k = t
  · subst e1
    rw [if_pos rfl, if_pos (by simp; omega), if_pos (by omega), h1]
    congr 1; omega
  · rw [if_neg e1, List.getElem?_set]
    by_cases e2 : k = t
    · subst e2
      rw [if_pos rfl, if_pos (by omega), if_pos (by omega), h2]
    · rw [if_neg e2, h3]
      by_cases e3 : t < k ∨ n - k ≤ t
      · rw [if_pos e3, if_pos (by omega)]
      · rw [if_neg e3, if_neg (by omega)]
theorem swapped_all {l ys : List UInt8} {n k : Nat} (h : Swapped l ys n k) (hl : l.length = n) (hk : n ≤ 2 * k + 1) : ys = l.reverse := by
  apply List.ext_getElem?
  intro t
  by_cases ht : t < n
  · rw [h.2 t ht, List.getElem?_reverse (by omega), hl]
    by_cases e3 : t < k ∨ n - k ≤ t
    · rw [if_pos e3]
    · rw [if_neg e3]
      congr 1; omega
  · rw [List.getElem?_eq_none (by have := h.1; omega), List.getElem?_eq_none (by simp; omega)]
theorem own_set2 {w : World} {base : Nat} {e : TypeId} {g n c : Nat} {ys : List UInt8} (ho : w.ownsRow base e 1 (.slice (some ⟨g, 0, none⟩) n c) n (u8s ys)) (i j : Nat) (a b : UInt8) :
    ((w.setCell ⟨g, i, none⟩ (.int .u8 (a.toNat : Int))).setCell ⟨g, j, none⟩ (.int .u8 (b.toNat : Int))).drew.ownsRow base e 1 (.slice (some ⟨g, 0, none⟩) n c) n (u8s ((ys.set i a).set j b)) ∧
    w.grownBy ((w.setCell ⟨g, i, none⟩ (.int .u8 (a.toNat : Int))).setCell ⟨g, j, none⟩ (.int .u8 (b.toNat : Int))).drew (some g) := by
  have h1 := ho.stored i (.int .u8 (a.toNat : Int))
  have h2 := h1.1.stored j (.int .u8 (b.toNat : Int))
  refine ⟨?_, grownBy_drew (grownBy_trans h1.2 h2.2)⟩
  have e1 : u8s ((ys.set i a).set j b) = ((u8s ys).set i (.int .u8 (a.toNat : Int))).set j (.int .u8 (b.toNat : Int)) := by simp [u8s, List.map_set]
  rw [e1]; exact h2.1.drew

set_option maxHeartbeats 400000 in
theorem reverse_any (base : Nat) (v : Value) (n : Nat) (l : List UInt8) (hn : n ≤ 1000000) (w : World) (hown : w.ownsRow base 5 1 v n (u8s l)) :
    Calls Tryd.prog 27 #[v] w fun e w' => e = .returned (.tuple #[]) ∧ w'.ownsRow base 5 1 v n (u8s l.reverse) ∧ w.grownBy w' v.ownBlock := by
  obtain ⟨A, c, rfl, hnc, hA⟩ := own_form hown
  have hll : l.length = n := by simpa using hown.1
  go_enter Tryd.func27, Tryd.ntmps27
  go_wp2
  go_loopw [2, 3] (fun i j wr => ∃ k : Nat, ∃ ys, i = .int .i64 k ∧ j = .int .i64 ((n : Int) - 1 - k) ∧ 2 * k ≤ n + 1 ∧ Hid (Swapped l ys n k) ∧ wr.ownsRow base 5 1 (.slice A n c) n (u8s ys) ∧ w.grownBy wr (Value.slice A n c).ownBlock)
    (fun i _ _ => n - (intOf i).toNat)
  case atStart => exact ⟨0, l, rfl, by simp, by omega, ⟨hll, fun t ht => by simp; omega⟩, hown, World.grownBy.refl _ _⟩
  case round =>
    obtain ⟨k, ys, rfl, rfl, hk, hsw, ho, hg⟩ := hrel
    by_cases hlt : (k : Int) < (n : Int) - 1 - k
    · obtain ⟨g, cap, hv, hb, hgl⟩ := ho.form (by omega)
      obtain ⟨rfl, rfl⟩ : A = some ⟨g, 0, none⟩ ∧ c = cap := by injection hv with h1 _ h3; exact ⟨h1, h3⟩
      have hl : ys.length = n := hsw.out.1
      obtain ⟨u, hu⟩ : ∃ u, ys[k]? = some u := ⟨_, List.getElem?_eq_getElem (by omega)⟩
      obtain ⟨q, hq⟩ : ∃ q, ys[n - 1 - k]? = some q := ⟨_, List.getElem?_eq_getElem (by omega)⟩
      have c1 : wr.cell? ⟨g, k, none⟩ = some (.int .u8 (u.toNat : Int)) := (ho.cellAt k (by omega)).trans (by simp [u8s, hu])
      have c2 : wr.cell? ⟨g, n - 1 - k, none⟩ = some (.int .u8 (q.toNat : Int)) := (ho.cellAt (n - 1 - k) (by omega)).trans (by simp [u8s, hq])
      have f1 : wr.frozen? ⟨g, k, none⟩ = false := ho.frozenAt k
      have f2 : wr.frozen? ⟨g, n - 1 - k, none⟩ = false := ho.frozenAt (n - 1 - k)
      have HU := Lib.hid hu
      have HQ := Lib.hid hq
      have HL := Lib.hid hll
      clear hu hq hl hA hown hgl hll hv
      go_wp2
      go_region
      all_goals
        go_wp2
        go_roundw
        case rel =>
          have hS := own_set2 ho k (n - 1 - k) q u
          exact ⟨k + 1, _, by go_num, by go_num, by omega, swapped_next hsw.out HL.out (by omega) HU.out HQ.out, hS.1, grownBy_trans hg hS.2⟩
        case measure => simp [intOf]; omega
    · go_wp2
      go_end0
      refine ⟨rfl, ?_, hg⟩
      rw [← swapped_all hsw.out hll (by omega)]
      exact ho


/-- bits.PutHigh. -/
theorem putHigh_any (x : Nat) (hx : x < 18446744073709551616) (n : Int) (w : World) :
    Calls Tryd.prog 19 #[.int .u64 x, .int .i64 n] w fun e w' => ∃ v, e = .returned v ∧
      w'.ownsRow w.heap.size 5 1 v (min n 64).toNat (u8s (leBytes (min n 64).toNat x).reverse) ∧ Below w.heap.size w w' := by
  go_enter Tryd.func19, Tryd.ntmps19
  go_wp2_with (go_at_call 26; refine (putLow_any x hx n _).mono ?_; rintro e w1 ⟨v, rfl, ho, hb⟩)
  go_wp2_with (go_at_call 27; refine (reverse_any _ v _ _ (by omega) _ ho).mono ?_; rintro e w2 ⟨rfl, ho2, hg⟩)
  go_ret
  exact ⟨_, rfl, ho2, hb.grown hg hb.size fun k hk => (ho.lt k hk).1⟩

/-- A number as one of another size. -/
def okByte (n : Int) : Bool := decide (0 ≤ n ∧ n < 256)
def okWord (n : Int) : Bool := decide (0 ≤ n ∧ n < 4294967296)

theorem rd_byte {w : World} {A : Option Addr} {n k : Nat} {l : List UInt8} (h : Rd w A n (u8s l)) (hk : k < n) :
    ∃ ad c, A = some ad ∧ l[k]? = some c ∧ w.cell? (ad.add k) = some (.int .u8 (c.toNat : Int)) := by
  obtain ⟨ad, u, e, hu, hc⟩ := h.at_ hk
  simp only [u8s, List.getElem?_map, Option.map_eq_some_iff] at hu
  obtain ⟨c, hc', rfl⟩ := hu
  exact ⟨ad, c, e, hc', hc⟩

set_option maxHeartbeats 400000 in
/-- bits.high, of at most eight bytes. -/
theorem high_any (A : Option Addr) (n c : Nat) (l : List UInt8) (hn : n ≤ 8) (w : World) (hr : Rd w A n (u8s l)) :
    Calls Tryd.prog 37 #[.slice A n c] w fun e w' => e = .returned (.int .u64 (beNat l : Nat)) ∧ w = w' := by
  have hl : l.length = n := by simpa using hr.1
  go_enter Tryd.func37, Tryd.ntmps37
  go_wp2
  go_loop [3, 8] (fun x i => ∃ k q : Nat, k ≤ n ∧ i = .int .i64 k ∧ x = .int .u64 q ∧ Hid (q = beNat (l.take k))) (fun _ i => n - (intOf i).toNat)
  case atStart => exact ⟨0, 0, Nat.zero_le _, rfl, rfl, rfl⟩
  case round =>
    obtain ⟨k, q, hk, rfl, rfl, hq⟩ := hrel
    by_cases hlt : k < n
    · obtain ⟨ad, d, rfl, hd, hc⟩ := rd_byte hr hlt
      have hd1 := d.toNat_lt
      have hq1 : q < 72057594037927936 := by
        rw [hq.out]
        refine Nat.lt_of_lt_of_le (beNat_lt _) ?_
        have : 256 ^ (l.take k).length ≤ 256 ^ 7 := Nat.pow_le_pow_right (by omega) (by rw [List.length_take]; omega)
        omega
      have e1 : bits .or .u64 ((q : Int) * 256) (d.toNat : Int) = ((q * 256 + d.toNat : Nat) : Int) := by
        rw [show (q : Int) * 256 = ((q * 256 : Nat) : Int) by simp, u64_or_nat _ _ (by omega) (by omega)]
        rw [Nat.or_comm, Nat.mul_comm q 256, show (256 : Nat) = 2 ^ 8 from rfl, or_add_ _ _ _ (by omega)]
        congr 1; omega
      have HQ : Hid (q * 256 + d.toNat = beNat (l.take (k + 1))) := by
        show _ = _
        rw [take_snoc_ l k d hd, beNat_snoc, hq.out]
      clear hd hl
      go_wp2
      go_round
      case rel => exact ⟨k + 1, _, by omega, by go_num, by go_num, HQ⟩
      case measure => simp [intOf]; omega
    · obtain rfl : k = n := by omega
      go_wp2
      go_ret
      rw [hq.out, List.take_of_length_le (by omega)]
      exact ⟨rfl, rfl⟩

theorem high32_any (A : Option Addr) (c : Nat) (l : List UInt8) (w : World) (hr : Rd w A 4 (u8s l)) :
    Calls Tryd.prog 32 #[.slice A 4 c] w fun e w' => e = .returned (.tuple #[.int .u32 (beNat l : Nat), .bool true]) ∧ w = w' := by
  have hl : l.length = 4 := by simpa using hr.1
  have hb := beNat_lt l
  rw [hl] at hb
  have e1 : IntKind.u32.wrap (beNat l : Nat) = (beNat l : Nat) := by rw [IntKind.wrap_u32']; omega
  go_enter Tryd.func32, Tryd.ntmps32
  go_wp2_with (go_at_call 37; refine (high_any A 4 c l (by omega) _ hr).mono ?_; rintro e w1 ⟨rfl, rfl⟩)
  go_ret2
  exact ⟨rfl, rfl⟩
theorem high32_no (A : Option Addr) (n c : Nat) (hn : (n : Int) ≠ 4) (w : World) :
    Calls Tryd.prog 32 #[.slice A n c] w fun e w' => e = .returned (.tuple #[.int .u32 0, .bool false]) ∧ w = w' := by
  go_enter Tryd.func32, Tryd.ntmps32
  go_wp2_with fail
  go_ret2
  exact ⟨rfl, rfl⟩
end Go.Proofs.YtbpgodkdbbiadaaDoor
