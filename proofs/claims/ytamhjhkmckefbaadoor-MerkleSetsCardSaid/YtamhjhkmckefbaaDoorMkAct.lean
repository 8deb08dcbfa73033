/- The walks of Act.key and Act.digest. No condition. -/
import Derived.Test.YtamhjhkmckefbaaDoorMkSet
import Derived.Test.YtamhjhkmckefbaaDoorKitM
namespace Go.Proofs.YtamhjhkmckefbaaDoor
open Go.RowKit
/-- An act: two numbers, a name. -/
structure ActM where
  key : Int
  dig : Int
  raw : Nm
def actC (a : ActM) : List Value := .int .i64 a.key :: .int .i64 a.dig :: u8s a.raw.1
theorem actC_length (a : ActM) : (actC a).length = 34 := by simp [actC, a.raw.2]
def u64N (z : Int) : Nat := (z % 18446744073709551616).toNat
def keyL2 (n : Nat) : List UInt8 := UInt8.ofNat (n / 6 * 16) :: UInt8.ofNat n :: List.replicate 30 0
def ActM.name (a : ActM) : Nm := if a.key.tmod 5 = 4 then a.raw else ⟨keyL2 (u64N a.key % 24), by simp [keyL2]⟩
def digL (n : Nat) : List UInt8 := UInt8.ofNat n :: UInt8.ofNat n :: List.replicate 30 0
def ActM.digest (a : ActM) : Nm := ⟨digL (u64N a.dig % 3), by simp [digL]⟩
theorem pair_val {m n : Nat} (hm : m < 256) (hn : n < 256) : Value.agg (Value.int .u8 (m : Int) :: .int .u8 (n : Int) :: List.replicate 30 (.int .u8 0)).toArray = by32 (UInt8.ofNat m :: UInt8.ofNat n :: List.replicate 30 0) := by
  unfold by32 u8s
  congr 1
  rw [List.map_cons, List.map_cons, List.map_replicate, UInt8.toNat_ofNat', UInt8.toNat_ofNat', Nat.mod_eq_of_lt hm, Nat.mod_eq_of_lt hn]
  rfl
theorem u64N_eq (z : Int) : IntKind.u64.wrap z = (u64N z : Int) := by
  rw [IntKind.wrap_u64]
  unfold u64N
  omega
theorem rem_nat (m n : Nat) : ((m : Int).tmod (n : Int)) = ((m % n : Nat) : Int) := by
  rw [← Int.ofNat_tmod]
set_option maxRecDepth 100000 in
set_option maxHeartbeats 8000000 in
theorem digest_act (a : ActM) (w : World) :
    Calls Tryd.prog 15 #[.agg (actC a).toArray] w fun e w' => e = .returned (by32 a.digest.1) ∧ Gr w w' := by
  have hl := actC_length a
  go_enter Tryd.func15, Tryd.ntmps15
  go_upto_region 1 with fail
  have h1 : Arr ((w.alloc (.cells (actC a).toArray 41)).alloc (.cells (u8s Z32).toArray 23)) w.heap.size 41 (actC a) := Arr.alloc (Arr.newAt rfl rfl) _
  have h2 : Arr ((w.alloc (.cells (actC a).toArray 41)).alloc (.cells (u8s Z32).toArray 23)) (w.heap.size + 1) 23 (u8s Z32) := Arr.newAt (by simp only [asz]) rfl
  have gb : Gr w ((w.alloc (.cells (actC a).toArray 41)).alloc (.cells (u8s Z32).toArray 23)) := (Gr.alloc _ _).trans (Gr.alloc _ _)
  change Code.wp _ _ _ _ ((w.alloc (.cells (actC a).toArray 41)).alloc (.cells (u8s Z32).toArray 23))
  generalize (w.alloc (.cells (actC a).toArray 41)).alloc (.cells (u8s Z32).toArray 23) = w0 at h1 h2 gb ⊢
  obtain ⟨g2, hg2⟩ : ∃ g2, g2 = w.heap.size + 1 := ⟨_, rfl⟩
  have hgw : w.heap.size ≤ g2 := by omega
  rw [← hg2] at h2 ⊢
  clear hg2
  generalize w.heap.size = g1 at h1 ⊢
  have c1 : w0.cell? ⟨g1, 1, none⟩ = some (.int .i64 a.dig) := h1.cell rfl
  clear hl
  obtain ⟨n, hn⟩ : ∃ n, n = u64N a.dig % 3 := ⟨_, rfl⟩
  have hn3 : n < 3 := by omega
  have hv : (IntKind.u64.wrap a.dig).tmod 3 % 256 = (n : Int) := by
    rw [u64N_eq, show (3 : Int) = ((3 : Nat) : Int) from rfl, rem_nat, ← hn]
    omega
  have hD : by32 a.digest.1 = by32 (digL n) := by rw [hn]; rfl
  have HD := Lib.hid hD
  have hp := pair_val (m := n) (n := n) (by omega) (by omega)
  have hP := Lib.hid hp
  have hdl : (digL n).length = 32 := by simp [digL]
  clear hn hD hp
  go_wp2_with (refine wpList_store_mid rfl _ _ _ rfl g2 0 (u8s (digL n)).toArray rfl hP.out (by have := h2.there; simpa [u8s_length, hdl, Z32_length] using this) (by have := infoD _ hdl; simpa using this) (all_oneCell_toArray (u8s_oneCell _)) ?_; rw [List.toList_toArray]; have hA6 := h2.setAll (u8s (digL n)) (by rw [u8s_length, u8s_length, hdl]; rfl); have hG6 : Gr w (w0.setCells g2 0 (u8s (digL n))) := Below.trans gb (below_setCells hgw _ _ _); generalize w0.setCells g2 0 (u8s (digL n)) = w6 at hA6 hG6 ⊢)
  refine bodyPost_ret (results_cell_row rfl _ _ g2 _ _ _ _ rfl hA6 Tryd.underlying23 rfl (by have := infoD _ hdl; simpa using this)) rfl ?_
  rw [HD.out]
  exact ⟨rfl, hG6⟩
set_option maxRecDepth 100000 in
set_option maxHeartbeats 8000000 in
theorem key_act (a : ActM) (w : World) :
    Calls Tryd.prog 14 #[.agg (actC a).toArray] w fun e w' => e = .returned (by32 a.name.1) ∧ Gr w w' := by
  have hl := actC_length a
  go_enter Tryd.func14, Tryd.ntmps14
  go_upto_region 1 with fail
  have h1 : Arr ((w.alloc (.cells (actC a).toArray 41)).alloc (.cells (u8s Z32).toArray 30)) w.heap.size 41 (actC a) := Arr.alloc (Arr.newAt rfl rfl) _
  have h2 : Arr ((w.alloc (.cells (actC a).toArray 41)).alloc (.cells (u8s Z32).toArray 30)) (w.heap.size + 1) 30 (u8s Z32) := Arr.newAt (by simp only [asz]) rfl
  have gb : Gr w ((w.alloc (.cells (actC a).toArray 41)).alloc (.cells (u8s Z32).toArray 30)) := (Gr.alloc _ _).trans (Gr.alloc _ _)
  change Code.wp _ _ _ _ ((w.alloc (.cells (actC a).toArray 41)).alloc (.cells (u8s Z32).toArray 30))
  generalize (w.alloc (.cells (actC a).toArray 41)).alloc (.cells (u8s Z32).toArray 30) = w0 at h1 h2 gb ⊢
  obtain ⟨g2, hg2⟩ : ∃ g2, g2 = w.heap.size + 1 := ⟨_, rfl⟩
  have hgw : w.heap.size ≤ g2 := by omega
  rw [← hg2] at h2 ⊢
  clear hg2
  generalize w.heap.size = g1 at h1 ⊢
  have c0 : w0.cell? ⟨g1, 0, none⟩ = some (.int .i64 a.key) := h1.cell rfl
  have hra : w0.rangeAt g1 2 (u8s a.raw.1) := fun j u hj => h1.cell (by
    show (actC a)[2 + j]? = some u
    rw [Nat.add_comm]
    exact hj)
  clear hl
  by_cases hk : a.key.tmod 5 = 4
  · have hkb : (a.key.tmod 5 == 4) = true := by rw [hk]; rfl
    have hN : by32 a.name.1 = by32 a.raw.1 := by unfold ActM.name; rw [if_pos hk]
    have HN := Lib.hid hN
    have hrl := a.raw.2
    clear hk hN
    go_wp2_with first
      | (refine wpList_load_mid rfl _ _ rfl g1 2 rfl (u8s a.raw.1) _ hra Tryd.underlying30 rfl (infoN a.raw) ?_)
      | (refine wpList_store_mid rfl _ _ _ rfl g2 0 (u8s a.raw.1).toArray rfl rfl (by have := h2.there; simpa [u8s_length, hrl, Z32_length] using this) (by have := infoN a.raw; simpa using this) (all_oneCell_toArray (u8s_oneCell _)) ?_; rw [List.toList_toArray]; have hA6 := h2.setAll (u8s a.raw.1) (by rw [u8s_length, u8s_length, hrl]; rfl); have hG6 : Gr w (w0.setCells g2 0 (u8s a.raw.1)) := Below.trans gb (below_setCells hgw _ _ _); generalize w0.setCells g2 0 (u8s a.raw.1) = w6 at hA6 hG6 ⊢)
    refine bodyPost_ret (results_cell_row rfl _ _ g2 _ _ _ _ rfl hA6 Tryd.underlying30 rfl (by have := infoN a.raw; simpa using this)) rfl ?_
    rw [HN.out]
    exact ⟨rfl, hG6⟩
  · have hkb : (a.key.tmod 5 == 4) = false := beq_false_of_ne hk
    obtain ⟨n, hn⟩ : ∃ n, n = u64N a.key % 24 := ⟨_, rfl⟩
    have hn3 : n < 24 := by omega
    have hv : (IntKind.u64.wrap a.key).tmod 24 = (n : Int) := by rw [u64N_eq, show (24 : Int) = ((24 : Nat) : Int) from rfl, rem_nat, ← hn]
    have hD : by32 a.name.1 = by32 (keyL2 n) := by unfold ActM.name; rw [if_neg hk, hn]
    have HD := Lib.hid hD
    have hp := pair_val (m := n / 6 * 16) (n := n) (by omega) (by omega)
    rw [show ((n / 6 * 16 : Nat) : Int) = (n : Int) / 6 * 16 by omega] at hp
    have hP := Lib.hid hp
    have hdl : (keyL2 n).length = 32 := by simp [keyL2]
    have hkN := infoN ⟨keyL2 n, hdl⟩
    clear hn hD hp hk
    go_wp2_with (refine wpList_store_mid rfl _ _ _ rfl g2 0 (u8s (keyL2 n)).toArray rfl hP.out (by have := h2.there; simpa [u8s_length, hdl, Z32_length] using this) (by simpa using hkN) (all_oneCell_toArray (u8s_oneCell _)) ?_; rw [List.toList_toArray]; have hA6 := h2.setAll (u8s (keyL2 n)) (by rw [u8s_length, u8s_length, hdl]; rfl); have hG6 : Gr w (w0.setCells g2 0 (u8s (keyL2 n))) := Below.trans gb (below_setCells hgw _ _ _); generalize w0.setCells g2 0 (u8s (keyL2 n)) = w6 at hA6 hG6 ⊢)
    refine bodyPost_ret (results_cell_row rfl _ _ g2 _ _ _ _ rfl hA6 Tryd.underlying30 rfl (by simpa using hkN)) rfl ?_
    rw [HD.out]
    exact ⟨rfl, hG6⟩
end Go.Proofs.YtamhjhkmckefbaaDoor
