/- The walk of the law's digests. No condition. -/
import Derived.Test.YtkhbnandmhlnoaaDoorLists
import Derived.Lib.SlBytesConst
import Derived.Lib.SmallJoins
namespace Go.Proofs.YtkhbnandmhlnoaaDoor
open Go.RowKit
theorem rd_made {w : World} {g : Nat} (hg : g = w.heap.size) (C : Array Value) (e : TypeId) (fr : Nat × Nat) (n : Nat) (l : List Value) (hC : C.toList = l) (hn : l.length = n) : Rd (w.alloc (.cells C e fr)) (some ⟨g, 0, none⟩) n l := by
  subst hg
  have hs : C.size = n := by rw [← Array.length_toList, hC, hn]
  have hg : (w.alloc (.cells C e fr)).heap[w.heap.size]? = some (.cells C e fr) := by
    show (w.heap.push (.cells C e fr))[w.heap.size]? = _
    simp
  have := Rd.of_row hg 0 n (by omega)
  rwa [hC, List.drop_zero, List.take_of_length_le (by simp [hn])] at this
/-- A slice of one slice. -/
theorem parts1 {w : World} {g : Nat} (hg : g = w.heap.size) (e : TypeId) (p : Part) (h : Rd w p.A p.n (u8s p.l)) (hc : p.n ≤ p.c) : Parts (w.alloc (.cells #[p.val] e)) (some ⟨g, 0, none⟩) 1 [p] :=
  ⟨rd_made hg _ _ _ 1 _ rfl rfl, fun q hq => by simp only [List.mem_singleton] at hq; subst hq; exact ⟨(Gr.alloc _ _).rd h, hc⟩⟩
/-- A slice of slices that lay there. -/
theorem partsN {w : World} {g : Nat} (hg : g = w.heap.size) (e : TypeId) (C : Array Value) (ps : List Part) (n : Nat) (hC : C.toList = ps.map Part.val) (hn : ps.length = n) (h : ∀ p ∈ ps, Rd w p.A p.n (u8s p.l) ∧ p.n ≤ p.c) : Parts (w.alloc (.cells C e)) (some ⟨g, 0, none⟩) n ps :=
  ⟨rd_made hg _ _ _ n _ hC (by simp [hn]), fun q hq => ⟨(Gr.alloc _ _).rd (h q hq).1, (h q hq).2⟩⟩
def abP (g : Nat) : List Part := [⟨some ⟨g, 0, none⟩, 2, 2, [97, 98]⟩, ⟨some ⟨g + 1, 0, none⟩, 1, 1, [99]⟩]
theorem parts_ab (w : World) (t u : TypeId) (f1 f2 : Nat × Nat) :
    Parts (((w.alloc (.cells #[.int .u8 97, .int .u8 98] t f1)).alloc (.cells #[.int .u8 99] t f2)).alloc (.cells #[.slice (some ⟨w.heap.size, 0, none⟩) 2 2, .slice (some ⟨w.heap.size + 1, 0, none⟩) 1 1] u)) (some ⟨w.heap.size + 1 + 1, 0, none⟩) 2 (abP w.heap.size) := by
  refine partsN (by simp only [asz]) u _ _ 2 rfl rfl fun p hp => ?_
  simp only [abP, List.mem_cons, List.not_mem_nil, or_false] at hp
  rcases hp with rfl | rfl
  · exact ⟨(Gr.alloc _ _).rd (rd_made rfl _ _ _ 2 _ rfl rfl), Nat.le_refl _⟩
  · exact ⟨rd_made (by simp only [asz]) _ _ _ 1 _ rfl rfl, Nat.le_refl _⟩
theorem abc_P (g : Nat) : allP (abP g) = abcL := rfl
set_option maxRecDepth 100000 in
set_option maxHeartbeats 2000000 in
theorem digests_any (w : World) (gw : Glob w) :
    Calls Tryd.prog 9 #[] w fun e w' => e = .returned (.bool true) ∧ Below w.heap.size w w' := by
  have hcv1 := Lib.run_convert_bytes_const (P := Tryd.prog) w 28 5 #[.int .u8 97, .int .u8 98] 2 2 Tryd.underlying28 Tryd.underlying5
  have hcv2 := Joins.run_convert_bytes_const_at (P := Tryd.prog) (w.alloc (.cells #[.int .u8 97, .int .u8 98] 5 (2, 3))) 28 5 #[.int .u8 99] 1 1 (w.heap.size + 1) (by simp only [asz]) Tryd.underlying28 Tryd.underlying5
  go_enter Tryd.func9, Tryd.ntmps9
  go_wp2_with fail
  go_at_call 8
  refine (shaSum_any _ 2 2 (abP w.heap.size) (by omega) abcL (abc_P _) (by decide) _ (parts_ab w 5 28 (2, 3) (1, 2)) (gw.gr (((Gr.alloc _ _).trans (Gr.alloc _ _)).trans (Gr.alloc _ _)))).mono ?_
  rintro e w1 ⟨rfl, hB1⟩
  have hB2 : Below w.heap.size w w1 := ((((Below.refl _ _).alloc (by omega) _).alloc (by simp only [asz]; omega) _).alloc (by simp only [asz]; omega) _).trans (hB1.mono (by simp only [asz]; omega))
  clear hB1 hcv1 hcv2
  have hab := abc_is
  obtain ⟨D, hD⟩ : ∃ D, D = shaL abcL := ⟨_, rfl⟩
  have hDl : D.length = 32 := by rw [hD]; simp
  rw [← hD] at hab ⊢
  clear hD
  go_wp2_with first
    | (refine wpList_new rfl 25 (.tmp 1) (.tmp 7) rfl _ (u8s D) rfl rfl rfl (by simp only [u8s_length, hDl]; rfl) (infoU8_32 D hDl) (u8s_oneCell _) ?_; intro w3 h1 hG3)
  generalize w1.heap.size = g1 at h1 ⊢
  have r1 := h1.rd 0 8 (by simp [hDl])
  have r2 := h1.rd 28 4 (by simp [hDl])
  rw [List.drop_zero, u8s_take, hab.1] at r1
  rw [u8s_drop, hab.2, u8s_take, List.take_of_length_le (by simp)] at r2
  have hB3 := hB2.trans (hG3.mono hB2.size)
  clear hab hB2 hG3 gw
  have hcv1 := fun (c : Nat) => run_str (P := Tryd.prog) (c := c) w3 Tryd.underlying28 Tryd.underlying5 Tryd.underlying9 r1
  have hcv2 := fun (c : Nat) => run_str (P := Tryd.prog) (c := c) w3 Tryd.underlying28 Tryd.underlying5 Tryd.underlying9 r2
  go_simp
  go_wp2_with fail
  go_ret
  exact ⟨rfl, hB3⟩
end Go.Proofs.YtkhbnandmhlnoaaDoor
