/- The walk of the document's carry. No condition. -/
import Derived.Test.YthffodfnnjejnaaPolR
import Derived.Test.YthffodfnnjejnaaBlocks06
namespace Go.Proofs.Ythffodfnnjejnaa
open Go.RowKit
/-- Numbers as they stand in memory. -/
def i64s (l : List Nat) : List Value := l.map fun (c : Nat) => .int .i64 (c : Int)
@[simp] theorem i64s_length (l : List Nat) : (i64s l).length = l.length := by simp [i64s]
theorem i64s_set (l : List Nat) (i x : Nat) : (i64s l).set i (.int .i64 (x : Int)) = i64s (l.set i x) := by simp [i64s, List.map_set]
theorem i64s_oneCell (l : List Nat) : ∀ u ∈ i64s l, u.oneCell' = true := by
  intro u hu
  simp only [i64s, List.mem_map] at hu
  obtain ⟨c, _, rfl⟩ := hu
  rfl
theorem Arr.i64 {w : World} {g : Nat} {t : TypeId} {s : List Nat} (h : Arr w g t (i64s s)) {a : Nat} (ha : a < s.length) : w.cell? ⟨g, a, none⟩ = some (.int .i64 (s.getD a 0 : Nat)) := by
  refine h.cell ?_
  simp [i64s, List.getD_eq_getElem?_getD, ha]
theorem info34 (l : List Nat) (h : l.length = 34) : (Try.prog.info? 73).map (·.size) = some (i64s l).length := by simp only [i64s_length, h]; kernel_rfl
set_option maxHeartbeats 4000000 in
theorem refCarry_any (a : List Nat) (ha : a.length = 34) (hl : Lt40 a) (w : World) :
    Calls Try.prog 39 #[.agg (i64s a).toArray] w fun e w' => e = .returned (.agg (i64s (dig 34 (val256 a))).toArray) ∧ Below w.heap.size w w' := by
  go_enter Try.func39, Try.ntmps39
  go_wp2_with fail
  generalize hW : (w.alloc _).alloc _ = W
  have hA : Arr W w.heap.size 73 (i64s (crAt a 0).1) := by rw [← hW]; exact (Arr.newAt rfl rfl).alloc _
  have hR : Arr W (w.heap.size + 1) 73 (i64s (List.replicate 34 0)) := by rw [← hW]; exact Arr.newAt (asz _ _) (by kernel_rfl)
  have hB : Below w.heap.size w W := by rw [← hW]; exact ((Below.refl _ _).alloc (Nat.le_refl _) _).alloc (by rw [asz]; omega) _
  clear hW
  go_loopw [3, 4] (fun ov i wr => ∃ r : Nat, r ≤ 34 ∧ i = .int .i64 r ∧ ov = .int .i64 ((crAt a r).2 : Nat) ∧ Arr wr w.heap.size 73 (i64s (crAt a r).1) ∧ Arr wr (w.heap.size + 1) 73 (i64s (List.replicate 34 0)) ∧ Below w.heap.size w wr) (fun _ i _ => 34 - (intOf i).toNat)
  case atStart => exact ⟨0, by omega, rfl, rfl, hA, hR, hB⟩
  case round =>
    obtain ⟨r, hr, rfl, rfl, hA, hR, hB⟩ := hrel
    by_cases hlt : r < 34
    · have hlz : (crAt a r).1.length = 34 := by simp [ha]
      obtain ⟨hLz, hqz⟩ := crAt_lt hl r
      obtain ⟨z, hz⟩ : ∃ z, z = (crAt a r).1 := ⟨_, rfl⟩
      obtain ⟨q, hq⟩ : ∃ q, q = (crAt a r).2 := ⟨_, rfl⟩
      obtain ⟨x, hx⟩ : ∃ x, x = z.getD r 0 := ⟨_, rfl⟩
      obtain ⟨n, hn⟩ : ∃ n, n = x + q := ⟨_, rfl⟩
      have HC : Hid (crAt a (r + 1) = (z.set r (n % 256), n / 256)) := by show _ = _; rw [hn, hx, hz, hq]; rfl
      rw [← hz] at hA hlz hLz
      rw [← hq] at hqz ⊢
      have hxl : x < 1099511627776 := by rw [hx]; exact hLz r
      have c1 := hA.i64 (a := r) (by omega)
      rw [← hx] at c1
      have f1 := hA.frozen r
      have e1 : (x : Int) + (q : Int) = (n : Int) := by omega
      have hnl : n < 2199023255552 := by omega
      clear hz hq hx hn
      go_wp2_with fail
      have h1 := hA.set r (.int .i64 ((n % 256 : Nat) : Int))
      rw [i64s_set] at h1
      refine ⟨⟨r + 1, by omega, by go_num, by rw [HC.out]; rfl, by rw [HC.out]; exact h1, hR.other (by simp only []; omega) _, hB.trans (below_setCell (a := ⟨w.heap.size, r, none⟩) (Nat.le_refl w.heap.size))⟩, by simp [intOf]; omega⟩
    · obtain rfl : r = 34 := by omega
      have hE := crAt_all ha
      obtain ⟨z, hz⟩ : ∃ z, z = (crAt a 34).1 := ⟨_, rfl⟩
      have hlz : z.length = 34 := by rw [hz]; simp [ha]
      rw [← hz] at hA hE
      have HE := Lib.hid hE
      clear hz hE
      simp only [show ((34 : Nat) : Int) = 34 from rfl]
      go_wp2_with first
        | (refine wpList_load_mid rfl 73 (.tmp 1) rfl w.heap.size 0 rfl (i64s z) _ hA.range Try.underlying73 rfl (info34 _ hlz) ?_)
        | (refine wpList_put hR rfl 73 (.tmp 2) (.tmp 21) rfl (i64s z) rfl rfl (by simp [hlz]) (info34 _ hlz) (i64s_oneCell _) ?_; intro w2 hR2 hB2 hO2)
      refine bodyPost_ret (results_cell_row rfl _ _ (w.heap.size + 1) _ _ _ _ rfl hR2 Try.underlying73 rfl (by have := info34 _ hlz; simpa using this)) rfl ?_
      rw [← HE.out]
      exact ⟨rfl, hB.trans (hB2.mono (by omega))⟩
end Go.Proofs.Ythffodfnnjejnaa
