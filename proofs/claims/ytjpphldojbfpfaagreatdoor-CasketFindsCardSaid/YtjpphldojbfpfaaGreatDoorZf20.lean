/- Texts of one proof, laid as one: part 20. No condition. -/
import Derived.Test.YtjpphldojbfpfaaGreatDoorZf01
import Derived.Test.YtjpphldojbfpfaaGreatDoorZf02
import Derived.Test.YtjpphldojbfpfaaGreatDoorZf05
import Derived.Test.YtjpphldojbfpfaaGreatDoorZf11
import Derived.Test.YtjpphldojbfpfaaGreatDoorZf16
namespace Go.Proofs.YtjpphldojbfpfaaGreatDoor
open Go.RowKit
set_option maxRecDepth 100000 in
set_option maxHeartbeats 1000000 in
theorem clone_any (A : Option Addr) (n c : Nat) (l : List UInt8) (hn : n ≤ 1000000) (w : World) (hr : Rd w A n (u8s l)) (hA : A = none → n = 0 ∧ c = 0) :
    Calls Tryz.prog 119 #[.slice A n c] w fun e w' => ∃ v, e = .returned v ∧ w'.ownsRow w.heap.size 5 1 v n (u8s l) ∧ Below w.heap.size w w' := by
  obtain ⟨i0, hi0, hz0, hz1, hz2⟩ := info_parts Tryz.info5; cases A with
  | none =>
    obtain ⟨rfl, rfl⟩ := hA rfl; have hl : l = [] := by have := hr.1; simpa using this
    subst hl; have he : ∀ w : World, (binOp .eql 43 (.slice none 0 0) (.slice none 0 0)).run Tryz.prog w = .ok (.bool true) w := fun _ => rfl
    go_enter Tryz.func119, Tryz.ntmps119
    go_wp2_with fail
    go_ret
    exact ⟨_, rfl, World.ownsRow_nil _ _ _ _, Below.refl _ _⟩
  | some ad =>
    clear hA; have he : ∀ w : World, (binOp .eql 43 (.slice (some ad) n c) (.slice none 0 0)).run Tryz.prog w = .ok (.bool false) w := fun _ => rfl
    go_enter Tryz.func119, Tryz.ntmps119
    go_wp2_with (at_builtin; go_must (refine wpList_clip _ rfl (.tmp 5) (.tmp 6) 43 rfl 5 i0 (.int .u8 0) Tryz.underlying43 hi0 hz0 hz1 hz2 rfl w.heap.size rfl rfl (some ad) n c l rfl hr (by omega) ?_))
    intro v1 w1 ho1 hB1; go_simp; go_wp2_with fail
    go_ret
    exact ⟨_, rfl, ho1, hB1⟩
end Go.Proofs.YtjpphldojbfpfaaGreatDoor
namespace Go.Proofs.YtjpphldojbfpfaaGreatDoor
open Go.RowKit
def crcStep (n : UInt32) : UInt32 := (n >>> 1) ^^^ (2197175160 &&& (0 - (n &&& 1)))
def crcSteps : Nat → UInt32 → UInt32
  | 0, n => n
  | k + 1, n => crcStep (crcSteps k n)
def crcOne (n : UInt32) (c : UInt8) : UInt32 := crcSteps 8 (n ^^^ c.toUInt32)
def crcU (l : List UInt8) : UInt32 := ~~~ l.foldl crcOne 4294967295
theorem crcU_snoc (l : List UInt8) (c : UInt8) : (l ++ [c]).foldl crcOne 4294967295 = crcOne (l.foldl crcOne 4294967295) c := by rw [List.foldl_append]; rfl
theorem xor_byte32 (n : UInt32) (c : UInt8) : bits .xor .u32 (n.toNat : Int) (c.toNat : Int) = ((n ^^^ c.toUInt32).toNat : Int) := by
  have := xor32 n c.toUInt32
  rwa [show ((c.toUInt32).toNat : Int) = (c.toNat : Int) by simp] at this
theorem crc_step_bits (r : UInt32) : bits .xor .u32 ((r.toNat : Int) / 2) (bits .and .u32 2197175160 (-bits .and .u32 (r.toNat : Int) 1 % 4294967296)) = ((crcStep r).toNat : Int) := by
  have h1 : ((r.toNat : Int) / (2 : Int)) = ((r >>> 1).toNat : Int) := by
    rw [UInt32.toNat_shiftRight, show (1 : UInt32).toNat % 32 = 1 from rfl, Nat.shiftRight_eq_div_pow]; omega
  have h2 : bits .and .u32 (r.toNat : Int) 1 = ((r &&& 1).toNat : Int) := and32 r 1
  have h3 : -((r &&& 1).toNat : Int) % 4294967296 = ((0 - (r &&& 1)).toNat : Int) := by
    rw [UInt32.toNat_sub, show (0 : UInt32).toNat = 0 from rfl]; have := (r &&& 1).toNat_lt; omega
  rw [h1, h2, h3]; have h4 := and32 2197175160 (0 - (r &&& 1)); rw [show ((2197175160 : UInt32).toNat : Int) = 2197175160 from rfl] at h4; rw [h4, xor32]; rfl
set_option maxRecDepth 100000 in
set_option maxHeartbeats 2000000 in
theorem check_crc {A : Option Addr} {n c : Nat} {l : List UInt8} {w : World} (hr : Rd w A n (u8s l)) (hl : l.length = n) (hn : n ≤ 1000000) :
    Calls Tryz.prog 137 #[.slice A n c] w fun e w' => e = .returned (.int .u32 ((crcU l).toNat : Int)) ∧ w = w' := by
  have HL := Lib.hid hl; clear hl
  go_enter Tryz.func137, Tryz.ntmps137
  go_wp2_with fail
  go_simp
  go_loop [3, 8] (fun v i => ∃ (j : Nat) (q : UInt32), j ≤ n ∧ i = .int .i64 (j : Int) ∧ v = .int .u32 (q.toNat : Int) ∧ Hid (q = (l.take j).foldl crcOne 4294967295)) (fun _ i => n - (intOf i).toNat)
  case atStart => exact ⟨0, 4294967295, Nat.zero_le _, rfl, rfl, rfl⟩
  case round =>
    obtain ⟨j, q, hj, rfl, rfl, hq⟩ := hrel
    by_cases hlt : j < n
    · have hji : (j : Int) < (n : Int) := by omega
      obtain ⟨ad, d, rfl, hd, hc⟩ := rd_byte hr hlt; have hd1 := d.toNat_lt; obtain ⟨r0, hr0⟩ : ∃ r, r = q ^^^ d.toUInt32 := ⟨_, rfl⟩; have hx := xor_byte32 q d; rw [← hr0] at hx; have HD := Lib.hid hd; have HR0 := Lib.hid hr0; clear hd hr0
      go_upto_region 7 with fail
      clear hx
      go_loop [3, 16] (fun v i => ∃ (k : Nat) (r : UInt32), k ≤ 8 ∧ i = .int .i64 (k : Int) ∧ v = .int .u32 (r.toNat : Int) ∧ Hid (r = crcSteps k r0)) (fun _ i => 8 - (intOf i).toNat)
      case atStart => exact ⟨0, r0, by omega, rfl, rfl, rfl⟩
      case round =>
        obtain ⟨k, r, hk8, rfl, rfl, hrk⟩ := hrel
        by_cases hlt8 : k < 8
        · have hki : (k : Int) < 8 := by omega
          have hst := crc_step_bits r; go_wp2_with fail
          go_round
          case rel => exact ⟨k + 1, crcStep r, by omega, by go_num, rfl, Lib.hid (by rw [hrk.out]; rfl)⟩
          case measure => simp [intOf]; omega
        · have hki : ¬ (k : Int) < 8 := by omega
          have hke : k = 8 := by omega
          have HN : Hid (r = (l.take (j + 1)).foldl crcOne 4294967295) := Lib.hid (by
            rw [take_snoc_ l j d HD.out, crcU_snoc, ← hq.out, hrk.out, HR0.out, hke]; rfl)
          clear hke; go_wp2_with fail
          go_round
          case rel => exact ⟨j + 1, r, by omega, by go_num, rfl, HN⟩
          case measure => simp [intOf]; omega
    · have hji : ¬ (j : Int) < (n : Int) := by omega
      have hje : j = n := by omega
      have HN : Hid (4294967295 - q.toNat = (crcU l).toNat) := Lib.hid (by
        unfold crcU; rw [UInt32.toNat_not, ← List.take_length (l := l), HL.out, ← hje, ← hq.out]; rfl)
      clear hje
      go_upto_region 11 with fail
      go_wp2_with (refine wpList_valW rfl (.int .u32 ((~~~q).toNat : Int)) _ (run_not32 (x := .tmp 27) rfl) ?_)
      go_ret
      exact ⟨by show Ending.returned (.int .u32 ((4294967295 - q.toNat : Nat) : Int)) = _; rw [HN.out], rfl⟩
def crcB (l : List UInt8) : List UInt8 := leBytes 4 (crcU l).toNat
def crcL (l : List UInt8) : List UInt8 := l ++ crcB l
theorem crcB_len (l : List UInt8) : (crcB l).length = 4 := leBytes_length _ _
theorem crcL_len (l : List UInt8) : (crcL l).length = l.length + 4 := by rw [crcL, List.length_append, crcB_len]
theorem rd_none {A : Option Addr} {n : Nat} {xs : List Value} {w : World} (hr : Rd w A n xs) (e : A = none) : n = 0 := by
  have hl := hr.1; cases xs with
  | nil => rw [← hl]; rfl
  | cons x r =>
    obtain ⟨ad, e2, _⟩ := hr.2 0 x rfl; rw [e] at e2; cases e2
def RowQ (l : List UInt8) (w : World) (e : Ending) (w' : World) : Prop := ∃ A c, e = .returned (.slice A l.length c) ∧ w'.ownsRow w.heap.size 5 1 (.slice A l.length c) l.length (u8s l) ∧ (A = none → c = 0) ∧ Gr w w'
set_option maxRecDepth 100000 in
set_option maxHeartbeats 2000000 in
theorem close_crc {A : Option Addr} {n c : Nat} {l : List UInt8} {w : World} (hr : Rd w A n (u8s l)) (hl : l.length = n) (hn : n ≤ 900000) (hA : A = none → c = 0) :
    Calls Tryz.prog 105 #[.slice A n c] w fun e w' => RowQ (crcL l) w e w' := by
  obtain ⟨i0, hi0, hz0, hz1, hz2⟩ : ∃ i, Tryz.prog.info? 5 = some i ∧ i.zero = some (.int .u8 0) ∧ i.size = 1 ∧ i.bytes = 1 := by
    have h := Tryz.info5; cases hi : Tryz.prog.info? 5 with
    | none => rw [hi] at h; simp at h
    | some i => rw [hi] at h; simp at h; exact ⟨i, rfl, h.1, h.2.1, h.2.2⟩
  have hA0 : A = none → n = 0 ∧ c = 0 := fun e => ⟨rd_none hr e, hA e⟩; have HC1 := Lib.hid (clone_any A n c l (by omega) w hr hA0); have HK := Lib.hid (fun w1 (h : Gr w w1) => check_crc (c := c) (h.rd hr) hl (by omega)); have hx := (crcU l).toNat_lt; have HP := Lib.hid (fun w1 => putLow_any (crcU l).toNat (by omega) 4 w1); have HN := Lib.hid hl; have hcv : IntKind.u64.wrap ((crcU l).toNat : Int) = ((crcU l).toNat : Int) := by rw [IntKind.wrap_u64]; omega
  obtain ⟨K, hK⟩ : ∃ K, K = (crcU l).toNat := ⟨_, rfl⟩; have HKK := Lib.hid hK; rw [← hK] at HK HP hx hcv; have hx2 : (K : Int) < 18446744073709551616 := by omega
  clear hK hr hl hA hA0
  go_enter Tryz.func105, Tryz.ntmps105
  go_wp2_with fail
  refine HC1.out.mono ?_; rintro e w1 ⟨v1, rfl, ho1, hG1⟩; obtain ⟨A1, c1, rfl, hc1, _, _⟩ := own_form3 ho1; go_wp2_with fail
  refine (HK.out w1 hG1).mono ?_; rintro e w2 ⟨rfl, rfl⟩; go_wp2_with fail
  refine (HP.out w1).mono ?_; rintro e w3 ⟨v3, rfl, ho3, hG3⟩; have ho3' : w3.ownsRow w1.heap.size 5 1 v3 4 (u8s (leBytes 4 K)) := ho3; obtain ⟨A3, c3, rfl, hc3, _, hr3⟩ := own_form3 ho3'; have ho13 := Gr.own hG3 ho1; have hG13 : Below w.heap.size w w3 := hG1.trans (hG3.mono hG1.size); clear ho3 ho1 HC1 HK HP
  go_wp2_with (at_builtin; go_must (refine wpList_app _ rfl (.tmp 4) (.tmp 8) 43 rfl w.heap.size 5 i0 (.int .u8 0) 1 Tryz.underlying43 hi0 hz0 hz1 hz2 rfl (.slice A1 n c1) n _ rfl ho13 A3 4 c3 _ rfl hr3 (u8s_oneCell _) (by omega) (by unfold maxLen; omega) hG13.size ?_))
  intro v4 w4 hA4; have ho4 := hA4.own; have hG4 := hG13.trans (hA4.below ho13 hG13.size); obtain ⟨A4, c4, rfl, hc4, hn4, _⟩ := own_form3 ho4
  have HQ : Hid (RowQ (crcL l) w (.returned (.slice A4 (n + 4) c4)) w4) := Lib.hid (by
    have e1 : (crcL l).length = n + 4 := by rw [crcL_len, HN.out]
    unfold RowQ; rw [e1]; refine ⟨A4, c4, rfl, ?_, fun e => (hn4 e).2, hG4⟩; rw [← u8s_append, HKK.out] at ho4; exact ho4)
  clear hA4 ho4 hG4 ho13 hG13 hr3 hG1 hG3; go_wp2_with fail
  go_ret
  exact HQ.out
def OpenY (l : List UInt8) (w : World) (e : Ending) (w' : World) : Prop := ∃ A c, e = .returned (.tuple #[.slice A l.length c, .bool true]) ∧ w'.ownsRow w.heap.size 5 1 (.slice A l.length c) l.length (u8s l) ∧ (A = none → c = 0) ∧ Gr w w'
set_option maxRecDepth 100000 in
set_option maxHeartbeats 2000000 in
theorem open_crc {A : Option Addr} {n c m : Nat} {b l : List UInt8} {w : World} (hr : Rd w A n (u8s b)) (hbl : b.length = n) (hn : n ≤ 900000) (hc : n ≤ c) (hA : A = none → c = 0) (hm : n = m + 4) (hl : b.take m = l) :
    Calls Tryz.prog 103 #[.slice A n c] w fun e w' => (crcL l = b → OpenY l w e w') ∧ (crcL l ≠ b → e = .returned (.tuple #[.slice none 0 0, .bool false]) ∧ Gr w w') := by
  have hll : l.length = m := by rw [← hl, List.length_take]; omega
  have hrl : Rd w A m (u8s l) := by
    have := hr.take (k := m) (by omega)
    rwa [u8s_take, hl] at this
  have hA0 : A = none → m = 0 ∧ c = 0 := fun e => ⟨rd_none hrl e, hA e⟩; have hcut := fun w1 => run_cut_h (P := Tryz.prog) Tryz.underlying43 (by kernel_rfl) (A := A) (n := n) (c := c) (hi := m) (h := (m : Int)) rfl (by omega) w1; have HC := Lib.hid (close_crc (c := c) hrl hll (by omega) hA); have HS := Lib.hid (fun w1 (h : Gr w w1) A1 c1 (hr1 : Rd w1 A1 n (u8s (crcL l))) => same_any A1 A n c1 c (crcL l) b (by omega) w1 hr1 (h.rd hr)); have HB := Lib.hid (fun w1 (h : Gr w w1) => clone_any A m c l (by omega) w1 (h.rd hrl) hA0); have HLL := Lib.hid hll; have hnm : (n : Int) - 4 = (m : Int) := by omega
  have hm0 : ¬ (m : Int) < 0 := by omega
  have hmn : m ≤ 900000 := by omega
  have hcl : (crcL l).length = n := by rw [crcL_len]; omega
  have HCL := Lib.hid hcl; clear hr hbl hc hA hl hll hrl hA0 hm hcl
  go_enter Tryz.func103, Tryz.ntmps103
  go_wp2_with fail
  refine HC.out.mono ?_; rintro e w1 ⟨A1, c1, rfl, ho1, _, hG1⟩; rw [HCL.out] at ho1 ⊢; have HR1 := Lib.hid (Rd.of_own ho1); clear ho1; go_wp2_with fail
  refine (HS.out w1 hG1 A1 c1 HR1.out).mono ?_; rintro e w2 ⟨rfl, k, rfl⟩; have hG2 : Gr w (w1.drewN k) := hG1.trans (below_dr ⟨_, rfl⟩); generalize w1.drewN k = w2 at hG2 ⊢; clear HS HC HR1 hG1
  by_cases hE : crcL l = b
  · have HE := Lib.hid hE; rw [decide_eq_true hE]; clear hE; go_wp2_with fail
    refine (HB.out w2 hG2).mono ?_; rintro e w3 ⟨v3, rfl, ho3, hG3⟩; obtain ⟨A3, c3, rfl, _, hn3, _⟩ := own_form3 ho3
    have HQ : Hid (OpenY l w (.returned (.tuple #[.slice A3 m c3, .bool true])) w3) := Lib.hid (by
      unfold OpenY; rw [HLL.out]; exact ⟨A3, c3, rfl, own_downS ho3 hG2.size, fun e => (hn3 e).2, hG2.trans hG3⟩)
    clear ho3 hn3 HB; go_wp2_with fail
    refine bodyPost_ret (results_tmp2 rfl _ _ _) rfl ?_; exact ⟨fun _ => HQ.out, fun h => absurd HE.out h⟩
  · have HE := Lib.hid hE; rw [decide_eq_false hE]; clear hE; go_wp2_with fail
    refine bodyPost_ret (results_tmp2 rfl _ _ _) rfl ?_; exact ⟨fun h => absurd h HE.out, fun _ => ⟨rfl, hG2⟩⟩
end Go.Proofs.YtjpphldojbfpfaaGreatDoor
namespace Go.Proofs.YtjpphldojbfpfaaGreatDoor
open Go.RowKit
structure InIs (w : World) (g p : Nat) (A : Option Addr) (c : Nat) (R : List UInt8) : Prop where
  arr : Arr w g 159 [.slice A R.length c, .int .i64 0]
  rd : Rd w A R.length (u8s R)
  blk : ∀ ad, A = some ad → ad.block = p
  far : p ≠ g
  cap : R.length ≤ c
  nil : A = none → c = 0
theorem InIs.gr {w w' : World} {g p : Nat} {A : Option Addr} {c : Nat} {R : List UInt8} (h : InIs w g p A c R) (hG : Gr w w') : InIs w' g p A c R := ⟨h.arr.gr hG, hG.rd h.rd, h.blk, h.far, h.cap, h.nil⟩
theorem cutA_blk {A : Option Addr} {c lo p : Nat} (h : ∀ ad, A = some ad → ad.block = p) : ∀ ad, cutA A c lo = some ad → ad.block = p := by
  intro ad e; unfold cutA at e; split at e
  · exact h ad e
  · cases A with
    | none => cases e
    | some a =>
      simp only [Option.map_some, Option.some.injEq] at e; have hb : (a.add lo).block = a.block := by unfold Addr.add; split <;> rfl
      rw [← e, hb]; exact h a rfl
theorem cutA_nil {A : Option Addr} {c lo : Nat} (h : A = none → c = 0) : cutA A c lo = none → c - lo = 0 := by
  intro e
  have : A = none := by
    unfold cutA at e; split at e
    · exact e
    · cases A with
      | none => rfl
      | some a => cases e
  have := h this; omega
theorem InIs.cut {w w1 w2 : World} {g p : Nat} {A : Option Addr} {c k : Nat} {R : List UInt8} (h : InIs w g p A c R) (hG : Gr w w1) (hk : k ≤ R.length) (hw : w2 = w1.setCell ⟨g, 0, none⟩ (.slice (cutA A c k) (R.length - k) (c - k))) (hA : Arr w2 g 159 [.slice (cutA A c k) (R.length - k) (c - k), .int .i64 0]) : InIs w2 g p (cutA A c k) (c - k) (R.drop k) := by
  have hl : (R.drop k).length = R.length - k := List.length_drop; refine ⟨by rw [hl]; exact hA, ?_, cutA_blk h.blk, h.far, by rw [hl]; have := h.cap; omega, cutA_nil h.nil⟩; have hr := ((hG.rd h.rd).cutL hk h.cap); rw [hl]; have e : (u8s R).drop k = u8s (R.drop k) := by simp [u8s]
  rw [e] at hr; subst hw; exact (InK.set _ _).rd hr (fun ad e => by rw [cutA_blk h.blk ad e]; exact h.far)
def SkipQ (g p : Nat) (A : Option Addr) (c k : Nat) (R : List UInt8) (w : World) (e : Ending) (w' : World) : Prop := ∃ A' c', e = .returned (.slice A' k c') ∧ w'.ownsRow w.heap.size 5 1 (.slice A' k c') k (u8s (R.take k)) ∧ (A' = none → c' = 0) ∧ InIs w' g p (cutA A c k) (c - k) (R.drop k) ∧ InK g w w'
set_option maxRecDepth 100000 in
set_option maxHeartbeats 4000000 in
theorem skip_any {g p c k : Nat} {A : Option Addr} {R : List UInt8} {w : World} (hI : InIs w g p A c R) (hk : k ≤ R.length) (hR : R.length ≤ 1000000) :
    Calls Tryz.prog 82 #[.pointer (some ⟨g, 0, none⟩), .int .i64 (k : Int)] w fun e w' => SkipQ g p A c k R w e w' := by
  have HC1 := Lib.hid fun w1 => run_cut_h (P := Tryz.prog) Tryz.underlying43 (by kernel_rfl) (A := A) (n := R.length) (c := c) (hi := k) (h := (k : Int)) rfl (by have := hI.cap; omega) w1; have HC2 := Lib.hid fun w1 => run_cut_l (P := Tryz.prog) Tryz.underlying43 (by kernel_rfl) (A := A) (n := R.length) (c := c) (lo := k) (l := (k : Int)) rfl hk w1; have hcut1 := HC1.out; have hcut2 := HC2.out; have HI := Lib.hid hI; have hc0 := hI.arr.cell (i := 0) (v := .slice A R.length c) rfl
  have hrt : Rd w A k (u8s (R.take k)) := by
    have := hI.rd.take hk; have e : (u8s R).take k = u8s (R.take k) := by simp [u8s]
    rwa [e] at this
  have HB := Lib.hid (fun w1 (h : Gr w w1) => bclone_any (c := c) (by omega : k ≤ 1000000) (h.rd hrt) hI.nil); clear hI hrt
  go_enter Tryz.func82, Tryz.ntmps82
  go_wp2_with first
    | (refine wpList_setSl hA1 rfl 43 (.tmp 21) (.tmp 19) rfl (by kernel_rfl) 0 rfl rfl (by simp) ?_; intro w9 hw9 hA9; have HE := Lib.hid (HI.out.cut hG1 hk hw9 hA9); have hK9 : InK g w1 w9 := (by rw [hw9]; exact InK.set _ _); clear hw9 hA9)
    | (go_at_call 79; refine (HB.out w (Gr.refl _)).mono ?_; rintro e w1 ⟨A1, c1, rfl, ho1, hn1, hG1⟩; have hA1 := HI.out.arr.gr hG1; have hc1 := hA1.cell (i := 0) (v := .slice A R.length c) rfl; have HO1 := Lib.hid ho1; have HN1 := Lib.hid hn1; clear ho1 hn1)
  go_ret
  exact ⟨A1, c1, rfl, hK9.own HO1.out HI.out.arr.lt, HN1.out, HE.out, (InK.of_gr hG1).trans hK9⟩
set_option maxRecDepth 100000 in
set_option maxHeartbeats 4000000 in
theorem dead_any {g p c : Nat} {A : Option Addr} {R : List UInt8} {w : World} (hI : InIs w g p A c R) : Calls Tryz.prog 81 #[.pointer (some ⟨g, 0, none⟩)] w fun e w' => e = .returned (.bool false) ∧ w = w' := by
  have hc1 := hI.arr.cell (i := 1) (v := .int .i64 0) rfl; clear hI
  go_enter Tryz.func81, Tryz.ntmps81
  go_wp2_with fail
  go_ret
  exact ⟨rfl, rfl⟩
set_option maxRecDepth 100000 in
set_option maxHeartbeats 4000000 in
theorem look_any {g p c k most : Nat} {A : Option Addr} {R : List UInt8} {w : World} (hI : InIs w g p A c R) (hk : k ≤ R.length) (h8 : k ≤ 8) (hx : beNat (R.take k) ≤ most) (hm : most < 9223372036854775808) :
    Calls Tryz.prog 85 #[.pointer (some ⟨g, 0, none⟩), .int .i64 (k : Int), .int .i64 (most : Int)] w fun e w' => e = .returned (.int .i64 (beNat (R.take k) : Nat)) ∧ w = w' := by
  have hcut1 := fun w1 => run_cut_h (P := Tryz.prog) Tryz.underlying43 (by kernel_rfl) (A := A) (n := R.length) (c := c) (hi := k) (h := (k : Int)) rfl (by have := hI.cap; omega) w1; have hc0 := hI.arr.cell (i := 0) (v := .slice A R.length c) rfl; obtain ⟨l, hl⟩ : ∃ l, l = R.take k := ⟨_, rfl⟩; have hll : l.length = k := by rw [hl, List.length_take]; omega
  have hr : Rd w A k (u8s l) := by
    have := hI.rd.take hk; have e : (u8s R).take k = u8s (R.take k) := by simp [u8s]
    rw [hl]
    rwa [e] at this
  rw [← hl] at hx ⊢; have hki : ¬ (R.length : Int) < (k : Int) := by omega
  have HX := Lib.hid hx; have HLL := Lib.hid hll; clear hl hI hx hll
  go_enter Tryz.func85, Tryz.ntmps85
  go_wp2_with fail
  go_loop [7, 29] (fun x i => ∃ j q : Nat, j ≤ k ∧ i = .int .i64 j ∧ x = .int .u64 q ∧ Hid (q = beNat (l.take j))) (fun _ i => k - (intOf i).toNat)
  case atStart => exact ⟨0, 0, Nat.zero_le _, rfl, rfl, rfl⟩
  case round =>
    obtain ⟨j, q, hj, rfl, rfl, hq⟩ := hrel
    by_cases hlt : j < k
    · obtain ⟨ad, d, rfl, hd, hc⟩ := rd_byte hr hlt; have hd1 := d.toNat_lt
      have hq1 : q < 72057594037927936 := by
        rw [hq.out]; refine Nat.lt_of_lt_of_le (beNat_lt _) ?_; have : 256 ^ (l.take j).length ≤ 256 ^ 7 := Nat.pow_le_pow_right (by omega) (by rw [List.length_take]; omega); omega
      have e1 : bits .or .u64 ((q : Int) * 256) (d.toNat : Int) = ((q * 256 + d.toNat : Nat) : Int) := by
        rw [show (q : Int) * 256 = ((q * 256 : Nat) : Int) by simp, u64_or_nat _ _ (by omega) (by omega)]; rw [Nat.or_comm, Nat.mul_comm q 256, show (256 : Nat) = 2 ^ 8 from rfl, or_add_ _ _ _ (by omega)]; congr 1; omega
      have HQ : Hid (q * 256 + d.toNat = beNat (l.take (j + 1))) := by
        show _ = _; rw [take_snoc_ l j d hd, beNat_snoc, hq.out]
      clear hd; go_wp2_with fail
      go_round
      case rel => exact ⟨j + 1, _, by omega, by go_num, by go_num, HQ⟩
      case measure => simp [intOf]; omega
    · obtain rfl : j = k := by omega
      have hqm : q ≤ most := by rw [hq.out, List.take_of_length_le (by rw [HLL.out]; exact Nat.le_refl _)]; exact HX.out
      have hqe : Hid (q = beNat l) := Lib.hid (by rw [hq.out, List.take_of_length_le (by rw [HLL.out]; exact Nat.le_refl _)]); have HY := Lib.hid (fun w1 => int_yes (q : Int) (by omega) (by omega) w1); have hqi : ¬ (most : Int) < (q : Int) := by omega
      clear hq
      go_wp2_with (go_at_call 122; refine (HY.out w).mono ?_; rintro e w2 ⟨rfl, rfl⟩)
      go_ret
      exact ⟨by rw [← hqe.out]; rfl, rfl⟩
def TakeQ (g p : Nat) (A : Option Addr) (c k : Nat) (R : List UInt8) (x : Nat) (w : World) (e : Ending) (w' : World) : Prop := e = .returned (.int .i64 (x : Int)) ∧ InIs w' g p (cutA A c k) (c - k) (R.drop k) ∧ InK g w w'
set_option maxRecDepth 100000 in
set_option maxHeartbeats 4000000 in
theorem number_any {g p c k most : Nat} {A : Option Addr} {R : List UInt8} {w : World} (hI : InIs w g p A c R) (hk : k ≤ R.length) (h8 : k ≤ 8) (hx : beNat (R.take k) ≤ most) (hm : most < 9223372036854775808) (hR : R.length ≤ 1000000) :
    Calls Tryz.prog 80 #[.pointer (some ⟨g, 0, none⟩), .int .i64 (k : Int), .int .i64 (most : Int)] w fun e w' => TakeQ g p A c k R (beNat (R.take k)) w e w' := by
  have H1 := Lib.hid (dead_any hI); have H2 := Lib.hid (look_any hI hk h8 hx hm); have H3 := Lib.hid (skip_any hI hk hR); have hc1 := hI.arr.cell (i := 1) (v := .int .i64 0) rfl; generalize beNat (R.take k) = x at H2 ⊢; clear hI hx
  go_enter Tryz.func80, Tryz.ntmps80
  go_wp2_with first
    | (go_at_call 81; refine H1.out.mono ?_; rintro e w2 ⟨rfl, rfl⟩)
    | (go_at_call 85; refine H2.out.mono ?_; rintro e w2 ⟨rfl, rfl⟩)
    | (go_at_call 82; refine H3.out.mono ?_; rintro e w3 ⟨A1, c1, rfl, _, _, hI3, hK3⟩)
  go_ret
  exact ⟨rfl, hI3, hK3⟩
set_option maxRecDepth 100000 in
set_option maxHeartbeats 4000000 in
theorem inum_any {g p c most x : Nat} {A : Option Addr} {R : List UInt8} {w : World} (hI : InIs w g p A c (hiB 8 x ++ R)) (hx : x ≤ most) (hm : most < 9223372036854775808) (hR : R.length ≤ 900000) :
    Calls Tryz.prog 83 #[.pointer (some ⟨g, 0, none⟩), .int .i64 (most : Int)] w fun e w' => ∃ A' c', e = .returned (.int .i64 (x : Int)) ∧ InIs w' g p A' c' R ∧ InK g w w' := by
  have ht : (hiB 8 x ++ R).take 8 = hiB 8 x := List.take_left' (hiB_length 8 x); have hd : (hiB 8 x ++ R).drop 8 = R := List.drop_left' (hiB_length 8 x)
  have hb : beNat (hiB 8 x) = x := by
    rw [hiB, beNat_leBytes]; exact Nat.mod_eq_of_lt (by omega)
  have H := number_any (k := 8) (most := most) hI (by rw [List.length_append, hiB_length]; omega) (by omega) (by rw [ht, hb]; exact hx) hm (by rw [List.length_append, hiB_length]; omega); unfold TakeQ at H; rw [ht, hb, hd] at H; have H1 := Lib.hid H; clear H ht hd hb hI
  go_enter Tryz.func83, Tryz.ntmps83
  go_wp2_with (go_at_call 80; refine H1.out.mono ?_; rintro e w2 ⟨rfl, hI2, hK2⟩)
  go_ret
  exact ⟨_, _, rfl, hI2, hK2⟩
set_option maxRecDepth 100000 in
set_option maxHeartbeats 4000000 in
theorem ismall_any {g p c most x : Nat} {A : Option Addr} {R : List UInt8} {w : World} (hI : InIs w g p A c (hiB 1 x ++ R)) (hx : x ≤ most) (hm : most < 256) (hR : R.length ≤ 900000) :
    Calls Tryz.prog 37 #[.pointer (some ⟨g, 0, none⟩), .int .i64 (most : Int)] w fun e w' => ∃ A' c', e = .returned (.int .i64 (x : Int)) ∧ InIs w' g p A' c' R ∧ InK g w w' := by
  have ht : (hiB 1 x ++ R).take 1 = hiB 1 x := List.take_left' (hiB_length 1 x); have hd : (hiB 1 x ++ R).drop 1 = R := List.drop_left' (hiB_length 1 x)
  have hb : beNat (hiB 1 x) = x := by
    rw [hiB, beNat_leBytes]; exact Nat.mod_eq_of_lt (by omega)
  have H := number_any (k := 1) (most := most) hI (by rw [List.length_append, hiB_length]; omega) (by omega) (by rw [ht, hb]; exact hx) (by omega) (by rw [List.length_append, hiB_length]; omega); unfold TakeQ at H; rw [ht, hb, hd] at H; have H1 := Lib.hid H; clear H ht hd hb hI
  go_enter Tryz.func37, Tryz.ntmps37
  go_wp2_with (go_at_call 80; refine H1.out.mono ?_; rintro e w2 ⟨rfl, hI2, hK2⟩)
  go_ret
  exact ⟨_, _, rfl, hI2, hK2⟩
def IBytesQ (g p : Nat) (l R : List UInt8) (w : World) (e : Ending) (w' : World) : Prop := ∃ A c A' c', e = .returned (.slice A l.length c) ∧ w'.ownsRow w.heap.size 5 1 (.slice A l.length c) l.length (u8s l) ∧ (A = none → c = 0) ∧ InIs w' g p A' c' R ∧ InK g w w'
set_option maxRecDepth 100000 in
set_option maxHeartbeats 4000000 in
theorem ibytes_big {g p c most : Nat} {A : Option Addr} {l R : List UInt8} {w : World} (hI : InIs w g p A c (outBs l ++ R)) (hx : l.length ≤ most) (hm : most < 9223372036854775808) (hl3 : l.length ≤ 300000) (hR : R.length ≤ 600000) :
    Calls Tryz.prog 40 #[.pointer (some ⟨g, 0, none⟩), .int .i64 (most : Int)] w fun e w' => IBytesQ g p l R w e w' := by
  have h4 := hiB_length 4 l.length; have ht : (outBs l ++ R).take 4 = hiB 4 l.length := by rw [outBs, List.append_assoc]; exact List.take_left' h4
  have hd : (outBs l ++ R).drop 4 = l ++ R := by rw [outBs, List.append_assoc]; exact List.drop_left' h4
  have hb : beNat (hiB 4 l.length) = l.length := by
    rw [hiB, beNat_leBytes]; exact Nat.mod_eq_of_lt (by omega)
  have hlen : (outBs l ++ R).length = 4 + (l.length + R.length) := by rw [outBs, List.length_append, List.length_append, h4]; omega
  have H1 := Lib.hid (dead_any hI); have H2 := look_any (k := 4) (most := most) hI (by omega) (by omega) (by rw [ht, hb]; exact hx) (by omega); rw [ht, hb] at H2; have H3 := skip_any (k := 4) hI (by omega) (by omega); unfold SkipQ at H3; rw [hd] at H3; have H4 := Lib.hid (fun (w1 : World) (hI1 : InIs w1 g p (cutA A c 4) (c - 4) (l ++ R)) => skip_any (k := l.length) hI1 (by rw [List.length_append]; omega) (by rw [List.length_append]; omega)); have hc1 := hI.arr.cell (i := 1) (v := .int .i64 0) rfl; have hc0 := hI.arr.cell (i := 0) (v := .slice A (outBs l ++ R).length c) rfl; have HT : Hid ((l ++ R).take l.length = l) := Lib.hid (List.take_left' rfl); have HD : Hid ((l ++ R).drop l.length = R) := Lib.hid (List.drop_left' rfl); rw [hlen] at hc0
  replace H2 := Lib.hid H2
  replace H3 := Lib.hid H3
  have hli : ¬ ((4 + (l.length + R.length) : Nat) : Int) - 4 < (l.length : Int) := by omega
  generalize hz : 4 + (l.length + R.length) = z at hc0 hli; have hzb : z ≤ 1000000 := by omega
  clear hz hlen hb hd ht h4 hI
  go_enter Tryz.func40, Tryz.ntmps40
  go_upto_region 9 with first
    | (go_at_call 81; refine H1.out.mono ?_; rintro e w2 ⟨rfl, rfl⟩)
    | (go_at_call 85; refine H2.out.mono ?_; rintro e w2 ⟨rfl, rfl⟩)
  go_wp2_with fail
  go_at_call 82
  refine H3.out.mono ?_; rintro e w3 ⟨A1, c1, rfl, _, _, hI3, hK3⟩; go_wp2_with fail
  go_at_call 82
  refine (H4.out w3 hI3).mono ?_; rintro e w4 ⟨A2, c2, rfl, hO4, hn4, hI4, hK4⟩; rw [HT.out] at hO4; rw [HD.out] at hI4; have HO := Lib.hid hO4; have HN := Lib.hid hn4; clear hO4 hn4; go_wp2_with fail
  go_ret
  exact ⟨A2, c2, _, _, rfl, own_base2 HO.out hK3.size, HN.out, hI4, hK3.trans hK4⟩
theorem ibytes_any {g p c most : Nat} {A : Option Addr} {l R : List UInt8} {w : World} (hI : InIs w g p A c (outBs l ++ R)) (hx : l.length ≤ most) (hm : most ≤ 300000) (hR : R.length ≤ 600000) :
    Calls Tryz.prog 40 #[.pointer (some ⟨g, 0, none⟩), .int .i64 (most : Int)] w fun e w' => IBytesQ g p l R w e w' := ibytes_big hI hx (by omega) (by omega) hR
set_option maxRecDepth 100000 in
set_option maxHeartbeats 4000000 in
theorem iend_any {g p c : Nat} {A : Option Addr} {w : World} (hI : InIs w g p A c []) : Calls Tryz.prog 41 #[.pointer (some ⟨g, 0, none⟩)] w fun e w' => e = .returned (.int .i64 0) ∧ w = w' := by
  have hc1 := hI.arr.cell (i := 1) (v := .int .i64 0) rfl; have hc0 := hI.arr.cell (i := 0) (v := .slice A 0 c) rfl; clear hI
  go_enter Tryz.func41, Tryz.ntmps41
  go_wp2_with fail
  go_ret
  exact ⟨rfl, rfl⟩
set_option maxRecDepth 100000 in
set_option maxHeartbeats 4000000 in
theorem of_any {A : Option Addr} {n c : Nat} {R : List UInt8} {w : World} (hr : Rd w A n (u8s R)) (hn : n ≤ 1000000) (hn0 : 0 < n) (hl : R.length = n) (hA : A = none → c = 0) :
    Calls Tryz.prog 36 #[.slice A n c] w fun e w' => ∃ g p A' c', e = .returned (.pointer (some ⟨g, 0, none⟩)) ∧ w.heap.size ≤ g ∧ g < w'.heap.size ∧ w.heap.size ≤ p ∧ p < g ∧ InIs w' g p A' c' R ∧ Gr w w' := by
  have H1 := Lib.hid (bclone_any hn hr hA)
  go_enter Tryz.func36, Tryz.ntmps36
  go_wp2_with (go_at_call 79; refine H1.out.mono ?_; rintro e w2 ⟨A2, c2, rfl, hO2, hn2, hG2⟩)
  go_ret
  have hG := Gr.alloc w2 (.cells #[.slice A2 n c2, .int .i64 0] 159); have hA : Arr (w2.alloc (.cells #[.slice A2 n c2, .int .i64 0] 159)) w2.heap.size 159 [.slice A2 n c2, .int .i64 0] := Arr.newAt rfl rfl; have hO3 := Gr.own hG hO2; subst hl
  have hcap : R.length ≤ c2 := by
    obtain ⟨_, _, e1, h1, _⟩ := own_form hO2; injection e1 with _ _ e1
    omega
  cases A2 with
  | none =>
    rcases hO2.2 with ⟨_, h2⟩ | ⟨_, _, _, e, _⟩
    · omega
    · cases e
  | some ad =>
    have h1 := own_lt hO2 ad rfl
    have h2 : w.heap.size ≤ ad.block := by
      rcases hO2.2 with ⟨e, _⟩ | ⟨b, _, _, e, hb, _⟩
      · cases e
      · injection e with e
        injection e with e
        rw [e]; exact hb
    exact ⟨w2.heap.size, ad.block, some ad, c2, rfl, hG2.size, hA.lt, h2, h1, ⟨hA, Rd.of_own hO3, fun ad2 e => by injection e with e; rw [e], by omega, hcap, hn2⟩, hG2.trans hG⟩
end Go.Proofs.YtjpphldojbfpfaaGreatDoor
