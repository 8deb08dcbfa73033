/- The walk of part. No condition. -/
import Derived.Test.YthffodfnnjejnaaPolN4
namespace Go.Proofs.Ythffodfnnjejnaa
open Go.RowKit
theorem run_cutA_h {P : Program} {T e : TypeId} {n : Nat} (hT : P.underlying T = some (.array n e)) (hsz : (P.info? e).map (·.size) = some 1) (g hi : Nat) (h2 : hi ≤ n) (h : Int) (hh : h = hi) (w : World) :
    (Instr.sliceAt T (.pointer (some ⟨g, 0, none⟩)) none (some (.int .i64 h)) none).run P w = .ok (.slice (some ⟨g, 0, none⟩) hi n) w := by
  subst hh
  obtain ⟨e1, e2⟩ := arrayLen_of hT
  rw [run_sliceAt_array_h w T _ (by rw [e1, e2]; exact hT) _ _ (by omega) (by rw [e1]; omega), e1, e2]
  simp only [run_size1 hsz, Result.andThen_ok, slicedAt, Int.toNat_natCast, Nat.sub_zero, Nat.zero_mul, add_zero_, ite_self]
theorem run_cutA_l {P : Program} {T e : TypeId} {n : Nat} (hT : P.underlying T = some (.array n e)) (hsz : (P.info? e).map (·.size) = some 1) (g lo : Nat) (h2 : lo < n) (h : Int) (hh : h = lo) (w : World) :
    (Instr.sliceAt T (.pointer (some ⟨g, 0, none⟩)) (some (.int .i64 h)) none none).run P w = .ok (.slice (some ⟨g, lo, none⟩) (n - lo) (n - lo)) w := by
  subst hh
  obtain ⟨e1, e2⟩ := arrayLen_of hT
  rw [run_sliceAt_array_l w T _ (by rw [e1, e2]; exact hT) _ _ (by omega) (by rw [e1]; omega), e1, e2]
  simp only [run_size1 hsz, Result.andThen_ok, slicedAt, Int.toNat_natCast, Nat.mul_one]
  rw [if_neg (by omega), add_row, Nat.zero_add]
theorem wide_set (b : List UInt8) (h : b.length ≤ 16) : ((u8s (List.replicate 17 0)).take 0 ++ u8s b ++ (u8s (List.replicate 17 0)).drop (0 + b.length)).set b.length (.int .u8 1) = u8s (wideL b) := by
  have e1 : (u8s (List.replicate 17 0)).drop (0 + b.length) = u8s (0 :: List.replicate (16 - b.length) 0) := by
    rw [u8s_drop, List.drop_replicate, ← List.replicate_succ]
    congr 2; omega
  rw [e1, List.take_zero, List.nil_append, List.set_append_right _ _ (by simp), u8s_length, Nat.sub_self, wideL, u8s_append]
  rfl
theorem Arr.u8 {w : World} {g : Nat} {t : TypeId} {s : List UInt8} (h : Arr w g t (u8s s)) {a : Nat} (ha : a < s.length) : w.cell? ⟨g, a, none⟩ = some (.int .u8 ((s.getD a 0).toNat : Int)) := by
  refine h.cell ?_
  simp [u8s, List.getD_eq_getElem?_getD, ha]
set_option maxHeartbeats 4000000 in
theorem part_any (A : Option Addr) (n c : Nat) (b : List UInt8) (hn : n ≤ 16) (w : World) (hr : Rd w A n (u8s b)) :
    Calls Try.prog 33 #[.slice A n c] w fun e w' => e = .returned (.agg (u64s (partU b)).toArray) ∧ Below w.heap.size w w' := by
  have hl : b.length = n := by simpa using hr.1
  have hlw := wideL_length (b := b) (by omega)
  obtain ⟨v, hv⟩ : ∃ v, v = wideL b := ⟨_, rfl⟩
  rw [← hv] at hlw
  obtain ⟨lo, hlo⟩ : ∃ x, x = v.take 8 := ⟨_, rfl⟩
  obtain ⟨hi, hhi⟩ : ∃ x, x = (v.drop 8).take 8 := ⟨_, rfl⟩
  obtain ⟨ab, hab⟩ : ∃ x, x = (v.getD 16 0).toNat := ⟨_, rfl⟩
  have hlol : leNat lo < 18446744073709551616 := by have := leNat_lt (v.take 8); rw [List.length_take, hlw] at this; rw [hlo]; exact this
  have hhil : leNat hi < 18446744073709551616 := by have := leNat_lt ((v.drop 8).take 8); rw [List.length_take, List.length_drop, hlw] at this; rw [hhi]; exact this
  have habl : ab < 256 := by rw [hab]; exact (v.getD 16 0).toNat_lt
  have HP : Hid (partU b = loadU (leNat lo) (leNat hi) ab) := by show _ = _; rw [hlo, hhi, hab, hv]; rfl
  have hlu : (loadU (leNat lo) (leNat hi) ab).length = 5 := rfl
  have hload := fun w => load_any (leNat lo) (leNat hi) ab hlol hhil w
  obtain ⟨q, hq⟩ : ∃ q, q = loadU (leNat lo) (leNat hi) ab := ⟨_, rfl⟩
  rw [← hq] at hlu hload HP
  have ws := wide_set b (by omega)
  rw [← hv, hl] at ws
  have HLO := Lib.hid hlo
  have HHI := Lib.hid hhi
  have HAB := Lib.hid hab
  have WS := Lib.hid ws
  have hn17 : ((n : Int) < 17) := by omega
  have e256 : (ab : Int) % 18446744073709551616 = ab := by omega
  clear hv hlo hhi hab hq ws
  go_enter Try.func33, Try.ntmps33
  have hcut0 := fun w1 => run_cutAll (P := Try.prog) Try.underlying80 (by kernel_rfl) (w.heap.size + 1) w1
  have hcut1 := fun w1 => run_cutA_h (P := Try.prog) Try.underlying80 (by kernel_rfl) (w.heap.size + 1) 8 (by omega) 8 rfl w1
  have hcut2 := fun w1 => run_cutA (P := Try.prog) Try.underlying80 (by kernel_rfl) (w.heap.size + 1) 8 16 (by omega) (by omega) (by omega) 8 16 rfl rfl w1
  go_wp2_with first
    | (refine wpList_copyA (Arr.newAt (l := u8s (List.replicate 17 0)) (asz _ _) (by kernel_rfl)) rfl (.tmp 8) (.tmp 9) 26 26 rfl 5 Try.underlying26 (by kernel_rfl) 0 17 17 rfl A n c rfl (u8s b) ((hr.alloc _).alloc _) (u8s_oneCell _) (by omega) (by simp) ?_; intro w2 h3 hB2 hO2; have h2 := hO2 _ _ _ (by omega) ((Arr.newAt (w := w) (l := u64s (List.replicate 5 0)) rfl (by kernel_rfl)).alloc _); have hB := (((Below.refl w.heap.size w).alloc (by omega) _).alloc (by simp only [asz]; omega) _).trans (hB2.mono (by omega)); clear hB2 hO2; have c1 := h3.cell (i := n) (v := _) (List.getElem?_eq_getElem (by simp; omega)); have f1 := h3.frozen n; have h4 := h3.set n (.int .u8 1); rw [WS.out] at h4; have h2 := h2.other (a := ⟨w.heap.size + 1, n, none⟩) (by simp only []; omega) (.int .u8 1); have hB := hB.trans (below_setCell (w := w2) (a := ⟨w.heap.size + 1, n, none⟩) (v := .int .u8 1) (by simp only []; omega)); have r1 := h4.rd 0 8 (by simp; omega); have r2 := h4.rd 8 8 (by simp; omega); rw [List.drop_zero, u8s_take] at r1; rw [u8s_drop, u8s_take] at r2; rw [← HLO.out] at r1; rw [← HHI.out] at r2; have c16 := h4.u8 (a := 16) (by omega); rw [← HAB.out] at c16; clear h3)
    | (go_at_call 30; refine (low64_any _ _ _ _ (by first | exact r1 | exact r2)).mono ?_; rintro e w5 ⟨rfl, rfl⟩)
    | (go_at_call 31; refine (hload _).mono ?_; rintro e w6 ⟨rfl, hB6⟩; replace h2 := h2.gr hB6; replace hB := hB.trans (hB6.mono hB.size); clear hB6)
    | (refine wpList_put h2 rfl 64 (.tmp 2) (.tmp 29) rfl (u64s q) rfl rfl (by simp [hlu]) (info38 _ hlu) (u64s_oneCell _) ?_; intro w8 hR8 hB8 hO8)
  refine bodyPost_ret (results_cell_row rfl _ _ w.heap.size _ _ _ _ rfl hR8 Try.underlying64 rfl (by have := info38 _ hlu; simpa using this)) rfl ?_
  rw [HP.out]
  exact ⟨rfl, hB.trans (hB8.mono (by omega))⟩
end Go.Proofs.Ythffodfnnjejnaa
