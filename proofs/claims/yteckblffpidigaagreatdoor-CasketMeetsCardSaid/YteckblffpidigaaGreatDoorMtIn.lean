/- Numbers and bytes taken (codec.In). No condition. -/
import Derived.Test.YteckblffpidigaaGreatDoorKitT
import Derived.Test.YteckblffpidigaaGreatDoorMtOut
namespace Go.Proofs.YteckblffpidigaaGreatDoor
open Go.RowKit
/-- An In that has these bytes left. -/
structure InIs (w : World) (g p : Nat) (A : Option Addr) (c : Nat) (R : List UInt8) : Prop where
  arr : Arr w g 99 [.slice A R.length c, .int .i64 0]
  rd : Rd w A R.length (u8s R)
  blk : ∀ ad, A = some ad → ad.block = p
  far : p ≠ g
  cap : R.length ≤ c
  nil : A = none → c = 0
theorem InIs.gr {w w' : World} {g p : Nat} {A : Option Addr} {c : Nat} {R : List UInt8} (h : InIs w g p A c R) (hG : Gr w w') : InIs w' g p A c R := ⟨h.arr.gr hG, hG.rd h.rd, h.blk, h.far, h.cap, h.nil⟩
theorem cutA_blk {A : Option Addr} {c lo p : Nat} (h : ∀ ad, A = some ad → ad.block = p) : ∀ ad, cutA A c lo = some ad → ad.block = p := by
  intro ad e
  unfold cutA at e
  split at e
  · exact h ad e
  · cases A with
    | none => cases e
    | some a =>
      simp only [Option.map_some, Option.some.injEq] at e
      have hb : (a.add lo).block = a.block := by unfold Addr.add; split <;> rfl
      rw [← e, hb]
      exact h a rfl
theorem cutA_nil {A : Option Addr} {c lo : Nat} (h : A = none → c = 0) : cutA A c lo = none → c - lo = 0 := by
  intro e
  have : A = none := by
    unfold cutA at e
    split at e
    · exact e
    · cases A with
      | none => rfl
      | some a => cases e
  have := h this
  omega
theorem InIs.cut {w w1 w2 : World} {g p : Nat} {A : Option Addr} {c k : Nat} {R : List UInt8} (h : InIs w g p A c R) (hG : Gr w w1) (hk : k ≤ R.length) (hw : w2 = w1.setCell ⟨g, 0, none⟩ (.slice (cutA A c k) (R.length - k) (c - k))) (hA : Arr w2 g 99 [.slice (cutA A c k) (R.length - k) (c - k), .int .i64 0]) : InIs w2 g p (cutA A c k) (c - k) (R.drop k) := by
  have hl : (R.drop k).length = R.length - k := List.length_drop
  refine ⟨by rw [hl]; exact hA, ?_, cutA_blk h.blk, h.far, by rw [hl]; have := h.cap; omega, cutA_nil h.nil⟩
  have hr := ((hG.rd h.rd).cutL hk h.cap)
  rw [hl]
  have e : (u8s R).drop k = u8s (R.drop k) := by simp [u8s]
  rw [e] at hr
  subst hw
  exact (InK.set _ _).rd hr (fun ad e => by rw [cutA_blk h.blk ad e]; exact h.far)
def SkipQ (g p : Nat) (A : Option Addr) (c k : Nat) (R : List UInt8) (w : World) (e : Ending) (w' : World) : Prop := ∃ A' c', e = .returned (.slice A' k c') ∧ w'.ownsRow w.heap.size 5 1 (.slice A' k c') k (u8s (R.take k)) ∧ (A' = none → c' = 0) ∧ InIs w' g p (cutA A c k) (c - k) (R.drop k) ∧ InK g w w'
set_option maxRecDepth 100000 in
set_option maxHeartbeats 4000000 in
theorem skip_any {g p c k : Nat} {A : Option Addr} {R : List UInt8} {w : World} (hI : InIs w g p A c R) (hk : k ≤ R.length) (hR : R.length ≤ 1000000) :
    Calls Tryz.prog 57 #[.pointer (some ⟨g, 0, none⟩), .int .i64 (k : Int)] w fun e w' => SkipQ g p A c k R w e w' := by
  have HC1 := Lib.hid fun w1 => run_cut_h (P := Tryz.prog) Tryz.underlying31 (by kernel_rfl) (A := A) (n := R.length) (c := c) (hi := k) (h := (k : Int)) rfl (by have := hI.cap; omega) w1
  have HC2 := Lib.hid fun w1 => run_cut_l (P := Tryz.prog) Tryz.underlying31 (by kernel_rfl) (A := A) (n := R.length) (c := c) (lo := k) (l := (k : Int)) rfl hk w1
  have hcut1 := HC1.out
  have hcut2 := HC2.out
  have HI := Lib.hid hI
  have hc0 := hI.arr.cell (i := 0) (v := .slice A R.length c) rfl
  have hrt : Rd w A k (u8s (R.take k)) := by
    have := hI.rd.take hk
    have e : (u8s R).take k = u8s (R.take k) := by simp [u8s]
    rwa [e] at this
  have HB := Lib.hid (fun w1 (h : Gr w w1) => bclone_any (c := c) (by omega : k ≤ 1000000) (h.rd hrt) hI.nil)
  clear hI hrt
  go_enter Tryz.func57, Tryz.ntmps57
  go_wp2_with first
    | (refine wpList_setSl hA1 rfl 31 (.tmp 21) (.tmp 19) rfl (by kernel_rfl) 0 rfl rfl (by simp) ?_; intro w9 hw9 hA9; have HE := Lib.hid (HI.out.cut hG1 hk hw9 hA9); have hK9 : InK g w1 w9 := (by rw [hw9]; exact InK.set _ _); clear hw9 hA9)
    | (go_at_call 53; refine (HB.out w (Gr.refl _)).mono ?_; rintro e w1 ⟨A1, c1, rfl, ho1, hn1, hG1⟩; have hA1 := HI.out.arr.gr hG1; have hc1 := hA1.cell (i := 0) (v := .slice A R.length c) rfl; have HO1 := Lib.hid ho1; have HN1 := Lib.hid hn1; clear ho1 hn1)
  go_ret
  exact ⟨A1, c1, rfl, hK9.own HO1.out HI.out.arr.lt, HN1.out, HE.out, (InK.of_gr hG1).trans hK9⟩
set_option maxRecDepth 100000 in
set_option maxHeartbeats 4000000 in
theorem dead_any {g p c : Nat} {A : Option Addr} {R : List UInt8} {w : World} (hI : InIs w g p A c R) : Calls Tryz.prog 55 #[.pointer (some ⟨g, 0, none⟩)] w fun e w' => e = .returned (.bool false) ∧ w = w' := by
  have hc1 := hI.arr.cell (i := 1) (v := .int .i64 0) rfl
  clear hI
  go_enter Tryz.func55, Tryz.ntmps55
  go_wp2_with fail
  go_ret
  exact ⟨rfl, rfl⟩
set_option maxRecDepth 100000 in
set_option maxHeartbeats 4000000 in
theorem look_any {g p c k most : Nat} {A : Option Addr} {R : List UInt8} {w : World} (hI : InIs w g p A c R) (hk : k ≤ R.length) (h8 : k ≤ 8) (hx : beNat (R.take k) ≤ most) (hm : most < 9223372036854775808) :
    Calls Tryz.prog 56 #[.pointer (some ⟨g, 0, none⟩), .int .i64 (k : Int), .int .i64 (most : Int)] w fun e w' => e = .returned (.int .i64 (beNat (R.take k) : Nat)) ∧ w = w' := by
  have hcut1 := fun w1 => run_cut_h (P := Tryz.prog) Tryz.underlying31 (by kernel_rfl) (A := A) (n := R.length) (c := c) (hi := k) (h := (k : Int)) rfl (by have := hI.cap; omega) w1
  have hc0 := hI.arr.cell (i := 0) (v := .slice A R.length c) rfl
  obtain ⟨l, hl⟩ : ∃ l, l = R.take k := ⟨_, rfl⟩
  have hll : l.length = k := by rw [hl, List.length_take]; omega
  have hr : Rd w A k (u8s l) := by
    have := hI.rd.take hk
    have e : (u8s R).take k = u8s (R.take k) := by simp [u8s]
    rw [hl]
    rwa [e] at this
  rw [← hl] at hx ⊢
  have hki : ¬ (R.length : Int) < (k : Int) := by omega
  have HX := Lib.hid hx
  have HLL := Lib.hid hll
  clear hl hI hx hll
  go_enter Tryz.func56, Tryz.ntmps56
  go_wp2_with fail
  go_loop [7, 29] (fun x i => ∃ j q : Nat, j ≤ k ∧ i = .int .i64 j ∧ x = .int .u64 q ∧ Hid (q = beNat (l.take j))) (fun _ i => k - (intOf i).toNat)
  case atStart => exact ⟨0, 0, Nat.zero_le _, rfl, rfl, rfl⟩
  case round =>
    obtain ⟨j, q, hj, rfl, rfl, hq⟩ := hrel
    by_cases hlt : j < k
    · obtain ⟨ad, d, rfl, hd, hc⟩ := rd_byte hr hlt
      have hd1 := d.toNat_lt
      have hq1 : q < 72057594037927936 := by
        rw [hq.out]
        refine Nat.lt_of_lt_of_le (beNat_lt _) ?_
        have : 256 ^ (l.take j).length ≤ 256 ^ 7 := Nat.pow_le_pow_right (by omega) (by rw [List.length_take]; omega)
        omega
      have e1 : bits .or .u64 ((q : Int) * 256) (d.toNat : Int) = ((q * 256 + d.toNat : Nat) : Int) := by
        rw [show (q : Int) * 256 = ((q * 256 : Nat) : Int) by simp, u64_or_nat _ _ (by omega) (by omega)]
        rw [Nat.or_comm, Nat.mul_comm q 256, show (256 : Nat) = 2 ^ 8 from rfl, or_add_ _ _ _ (by omega)]
        congr 1; omega
      have HQ : Hid (q * 256 + d.toNat = beNat (l.take (j + 1))) := by
        show _ = _
        rw [take_snoc_ l j d hd, beNat_snoc, hq.out]
      clear hd
      go_wp2_with fail
      go_round
      case rel => exact ⟨j + 1, _, by omega, by go_num, by go_num, HQ⟩
      case measure => simp [intOf]; omega
    · obtain rfl : j = k := by omega
      have hqm : q ≤ most := by rw [hq.out, List.take_of_length_le (by rw [HLL.out]; exact Nat.le_refl _)]; exact HX.out
      have hqe : Hid (q = beNat l) := Lib.hid (by rw [hq.out, List.take_of_length_le (by rw [HLL.out]; exact Nat.le_refl _)])
      have HY := Lib.hid (fun w1 => int_yes (q : Int) (by omega) (by omega) w1)
      have hqi : ¬ (most : Int) < (q : Int) := by omega
      clear hq
      go_wp2_with (go_at_call 75; refine (HY.out w).mono ?_; rintro e w2 ⟨rfl, rfl⟩)
      go_ret
      exact ⟨by rw [← hqe.out]; rfl, rfl⟩
def TakeQ (g p : Nat) (A : Option Addr) (c k : Nat) (R : List UInt8) (x : Nat) (w : World) (e : Ending) (w' : World) : Prop := e = .returned (.int .i64 (x : Int)) ∧ InIs w' g p (cutA A c k) (c - k) (R.drop k) ∧ InK g w w'
set_option maxRecDepth 100000 in
set_option maxHeartbeats 4000000 in
theorem number_any {g p c k most : Nat} {A : Option Addr} {R : List UInt8} {w : World} (hI : InIs w g p A c R) (hk : k ≤ R.length) (h8 : k ≤ 8) (hx : beNat (R.take k) ≤ most) (hm : most < 9223372036854775808) (hR : R.length ≤ 1000000) :
    Calls Tryz.prog 54 #[.pointer (some ⟨g, 0, none⟩), .int .i64 (k : Int), .int .i64 (most : Int)] w fun e w' => TakeQ g p A c k R (beNat (R.take k)) w e w' := by
  have H1 := Lib.hid (dead_any hI)
  have H2 := Lib.hid (look_any hI hk h8 hx hm)
  have H3 := Lib.hid (skip_any hI hk hR)
  have hc1 := hI.arr.cell (i := 1) (v := .int .i64 0) rfl
  generalize beNat (R.take k) = x at H2 ⊢
  clear hI hx
  go_enter Tryz.func54, Tryz.ntmps54
  go_wp2_with first
    | (go_at_call 55; refine H1.out.mono ?_; rintro e w2 ⟨rfl, rfl⟩)
    | (go_at_call 56; refine H2.out.mono ?_; rintro e w2 ⟨rfl, rfl⟩)
    | (go_at_call 57; refine H3.out.mono ?_; rintro e w3 ⟨A1, c1, rfl, _, _, hI3, hK3⟩)
  go_ret
  exact ⟨rfl, hI3, hK3⟩
set_option maxRecDepth 100000 in
set_option maxHeartbeats 4000000 in
theorem inum_any {g p c most x : Nat} {A : Option Addr} {R : List UInt8} {w : World} (hI : InIs w g p A c (hiB 8 x ++ R)) (hx : x ≤ most) (hm : most < 9223372036854775808) (hR : R.length ≤ 900000) :
    Calls Tryz.prog 21 #[.pointer (some ⟨g, 0, none⟩), .int .i64 (most : Int)] w fun e w' => ∃ A' c', e = .returned (.int .i64 (x : Int)) ∧ InIs w' g p A' c' R ∧ InK g w w' := by
  have ht : (hiB 8 x ++ R).take 8 = hiB 8 x := List.take_left' (hiB_length 8 x)
  have hd : (hiB 8 x ++ R).drop 8 = R := List.drop_left' (hiB_length 8 x)
  have hb : beNat (hiB 8 x) = x := by
    rw [hiB, beNat_leBytes]
    exact Nat.mod_eq_of_lt (by omega)
  have H := number_any (k := 8) (most := most) hI (by rw [List.length_append, hiB_length]; omega) (by omega) (by rw [ht, hb]; exact hx) hm (by rw [List.length_append, hiB_length]; omega)
  unfold TakeQ at H
  rw [ht, hb, hd] at H
  have H1 := Lib.hid H
  clear H ht hd hb hI
  go_enter Tryz.func21, Tryz.ntmps21
  go_wp2_with (go_at_call 54; refine H1.out.mono ?_; rintro e w2 ⟨rfl, hI2, hK2⟩)
  go_ret
  exact ⟨_, _, rfl, hI2, hK2⟩
set_option maxRecDepth 100000 in
set_option maxHeartbeats 4000000 in
theorem ismall_any {g p c most x : Nat} {A : Option Addr} {R : List UInt8} {w : World} (hI : InIs w g p A c (hiB 1 x ++ R)) (hx : x ≤ most) (hm : most < 256) (hR : R.length ≤ 900000) :
    Calls Tryz.prog 20 #[.pointer (some ⟨g, 0, none⟩), .int .i64 (most : Int)] w fun e w' => ∃ A' c', e = .returned (.int .i64 (x : Int)) ∧ InIs w' g p A' c' R ∧ InK g w w' := by
  have ht : (hiB 1 x ++ R).take 1 = hiB 1 x := List.take_left' (hiB_length 1 x)
  have hd : (hiB 1 x ++ R).drop 1 = R := List.drop_left' (hiB_length 1 x)
  have hb : beNat (hiB 1 x) = x := by
    rw [hiB, beNat_leBytes]
    exact Nat.mod_eq_of_lt (by omega)
  have H := number_any (k := 1) (most := most) hI (by rw [List.length_append, hiB_length]; omega) (by omega) (by rw [ht, hb]; exact hx) (by omega) (by rw [List.length_append, hiB_length]; omega)
  unfold TakeQ at H
  rw [ht, hb, hd] at H
  have H1 := Lib.hid H
  clear H ht hd hb hI
  go_enter Tryz.func20, Tryz.ntmps20
  go_wp2_with (go_at_call 54; refine H1.out.mono ?_; rintro e w2 ⟨rfl, hI2, hK2⟩)
  go_ret
  exact ⟨_, _, rfl, hI2, hK2⟩
def IBytesQ (g p : Nat) (l R : List UInt8) (w : World) (e : Ending) (w' : World) : Prop := ∃ A c A' c', e = .returned (.slice A l.length c) ∧ w'.ownsRow w.heap.size 5 1 (.slice A l.length c) l.length (u8s l) ∧ (A = none → c = 0) ∧ InIs w' g p A' c' R ∧ InK g w w'
set_option maxRecDepth 100000 in
set_option maxHeartbeats 4000000 in
theorem ibytes_any {g p c most : Nat} {A : Option Addr} {l R : List UInt8} {w : World} (hI : InIs w g p A c (outBs l ++ R)) (hx : l.length ≤ most) (hm : most ≤ 300000) (hR : R.length ≤ 600000) :
    Calls Tryz.prog 23 #[.pointer (some ⟨g, 0, none⟩), .int .i64 (most : Int)] w fun e w' => IBytesQ g p l R w e w' := by
  have h4 := hiB_length 4 l.length
  have ht : (outBs l ++ R).take 4 = hiB 4 l.length := by rw [outBs, List.append_assoc]; exact List.take_left' h4
  have hd : (outBs l ++ R).drop 4 = l ++ R := by rw [outBs, List.append_assoc]; exact List.drop_left' h4
  have hb : beNat (hiB 4 l.length) = l.length := by
    rw [hiB, beNat_leBytes]
    exact Nat.mod_eq_of_lt (by omega)
  have hlen : (outBs l ++ R).length = 4 + (l.length + R.length) := by rw [outBs, List.length_append, List.length_append, h4]; omega
  have H1 := Lib.hid (dead_any hI)
  have H2 := look_any (k := 4) (most := most) hI (by omega) (by omega) (by rw [ht, hb]; exact hx) (by omega)
  rw [ht, hb] at H2
  have H3 := skip_any (k := 4) hI (by omega) (by omega)
  unfold SkipQ at H3
  rw [hd] at H3
  have H4 := Lib.hid (fun (w1 : World) (hI1 : InIs w1 g p (cutA A c 4) (c - 4) (l ++ R)) => skip_any (k := l.length) hI1 (by rw [List.length_append]; omega) (by rw [List.length_append]; omega))
  have hc1 := hI.arr.cell (i := 1) (v := .int .i64 0) rfl
  have hc0 := hI.arr.cell (i := 0) (v := .slice A (outBs l ++ R).length c) rfl
  have HT : Hid ((l ++ R).take l.length = l) := Lib.hid (List.take_left' rfl)
  have HD : Hid ((l ++ R).drop l.length = R) := Lib.hid (List.drop_left' rfl)
  rw [hlen] at hc0
  replace H2 := Lib.hid H2
  replace H3 := Lib.hid H3
  have hli : ¬ ((4 + (l.length + R.length) : Nat) : Int) - 4 < (l.length : Int) := by omega
  generalize hz : 4 + (l.length + R.length) = z at hc0 hli
  have hzb : z ≤ 1000000 := by omega
  clear hz hlen hb hd ht h4 hI
  go_enter Tryz.func23, Tryz.ntmps23
  go_upto_region 9 with first
    | (go_at_call 55; refine H1.out.mono ?_; rintro e w2 ⟨rfl, rfl⟩)
    | (go_at_call 56; refine H2.out.mono ?_; rintro e w2 ⟨rfl, rfl⟩)
  go_wp2_with fail
  go_at_call 57
  refine H3.out.mono ?_
  rintro e w3 ⟨A1, c1, rfl, _, _, hI3, hK3⟩
  go_wp2_with fail
  go_at_call 57
  refine (H4.out w3 hI3).mono ?_
  rintro e w4 ⟨A2, c2, rfl, hO4, hn4, hI4, hK4⟩
  rw [HT.out] at hO4
  rw [HD.out] at hI4
  have HO := Lib.hid hO4
  have HN := Lib.hid hn4
  clear hO4 hn4
  go_wp2_with fail
  go_ret
  exact ⟨A2, c2, _, _, rfl, own_base2 HO.out hK3.size, HN.out, hI4, hK3.trans hK4⟩
set_option maxRecDepth 100000 in
set_option maxHeartbeats 4000000 in
theorem iend_any {g p c : Nat} {A : Option Addr} {w : World} (hI : InIs w g p A c []) : Calls Tryz.prog 24 #[.pointer (some ⟨g, 0, none⟩)] w fun e w' => e = .returned (.int .i64 0) ∧ w = w' := by
  have hc1 := hI.arr.cell (i := 1) (v := .int .i64 0) rfl
  have hc0 := hI.arr.cell (i := 0) (v := .slice A 0 c) rfl
  clear hI
  go_enter Tryz.func24, Tryz.ntmps24
  go_wp2_with fail
  go_ret
  exact ⟨rfl, rfl⟩
set_option maxRecDepth 100000 in
set_option maxHeartbeats 4000000 in
theorem of_any {A : Option Addr} {n c : Nat} {R : List UInt8} {w : World} (hr : Rd w A n (u8s R)) (hn : n ≤ 1000000) (hn0 : 0 < n) (hl : R.length = n) (hA : A = none → c = 0) :
    Calls Tryz.prog 19 #[.slice A n c] w fun e w' => ∃ g p A' c', e = .returned (.pointer (some ⟨g, 0, none⟩)) ∧ w.heap.size ≤ g ∧ g < w'.heap.size ∧ w.heap.size ≤ p ∧ p < g ∧ InIs w' g p A' c' R ∧ Gr w w' := by
  have H1 := Lib.hid (bclone_any hn hr hA)
  go_enter Tryz.func19, Tryz.ntmps19
  go_wp2_with (go_at_call 53; refine H1.out.mono ?_; rintro e w2 ⟨A2, c2, rfl, hO2, hn2, hG2⟩)
  go_ret
  have hG := Gr.alloc w2 (.cells #[.slice A2 n c2, .int .i64 0] 99)
  have hA : Arr (w2.alloc (.cells #[.slice A2 n c2, .int .i64 0] 99)) w2.heap.size 99 [.slice A2 n c2, .int .i64 0] := Arr.newAt rfl rfl
  have hO3 := Gr.own hG hO2
  subst hl
  have hcap : R.length ≤ c2 := by
    obtain ⟨_, _, e1, h1, _⟩ := own_form hO2
    injection e1 with _ _ e1
    omega
  cases A2 with
  | none =>
    rcases hO2.2 with ⟨_, h2⟩ | ⟨_, _, _, e, _⟩
    · omega
    · cases e
  | some ad =>
    have h1 := own_lt hO2 ad rfl
    have h2 : w.heap.size ≤ ad.block := by
      rcases hO2.2 with ⟨e, _⟩ | ⟨b, _, _, e, hb, _⟩
      · cases e
      · injection e with e
        injection e with e
        rw [e]
        exact hb
    exact ⟨w2.heap.size, ad.block, some ad, c2, rfl, hG2.size, hA.lt, h2, h1, ⟨hA, Rd.of_own hO3, fun ad2 e => by injection e with e; rw [e], by omega, hcap, hn2⟩, hG2.trans hG⟩
end Go.Proofs.YteckblffpidigaaGreatDoor
