/- Rows of blinds; a slice of one blind built; what naming and sealing keep. No condition. -/
import Derived.Test.YtnmhfomnlnlflaaDoorNamesR
import Derived.Test.YtnmhfomnlnlflaaDoorTwinC
import Derived.Great.BuildSlice
namespace Go.Proofs.YtnmhfomnlnlflaaDoor
open Go.RowKit
theorem flatK {α : Type} (f : α → List Value) (K : Nat) : ∀ (L : List α) (k : Nat) (x : α), L[k]? = some x → (∀ y ∈ L, (f y).length = K) → ∀ i, i < K → (L.flatMap f)[K * k + i]? = (f x)[i]?
  | [], k, x, h, _, _, _ => by simp at h
  | y :: L, 0, x, h, hl, i, hi => by
    simp at h
    subst h
    rw [List.flatMap_cons, Nat.mul_zero, Nat.zero_add, List.getElem?_append_left (by rw [hl y (by simp)]; exact hi)]
  | y :: L, k + 1, x, h, hl, i, hi => by
    have h1 := flatK f K L k x (by simpa using h) (fun z hz => hl z (by simp [hz])) i hi
    rw [List.flatMap_cons, List.getElem?_append_right (by rw [hl y (by simp), Nat.mul_succ]; omega), hl y (by simp), show K * (k + 1) + i - K = K * k + i by rw [Nat.mul_succ]; omega]
    exact h1
theorem own_at32 {w : World} {B : Nat} {e : TypeId} {A : Option Addr} {n c : Nat} {L : List (List UInt8)} (h : w.ownsRow B e 32 (.slice A n c) n (L.flatMap u8s)) (hl : ∀ y ∈ L, y.length = 32) {k : Nat} {x : List UInt8} (hk : L[k]? = some x) (hkn : k < n) :
    ∃ gN, A = some ⟨gN, 0, none⟩ ∧ w.rangeAt gN (k * 32) (u8s x) := by
  rcases h.2 with ⟨_, e2⟩ | ⟨g, cap, cur, e1, h1, h2, h3, h4, h5, h6⟩
  · omega
  · injection e1 with e1
    refine ⟨g, e1, fun i v hi => ?_⟩
    have hil : i < 32 := by
      have := (List.getElem?_eq_some_iff.1 hi).1
      rw [u8s_length, hl x (List.mem_of_getElem? hk)] at this
      exact this
    have hf := flatK u8s 32 L k x hk (fun y hy => by rw [u8s_length, hl y hy]) i hil
    rw [hi, ← h6] at hf
    rw [List.getElem?_take] at hf
    split at hf
    · rw [show k * 32 + i = 32 * k + i by omega]
      rw [cell_of_row w g _ cur _ _ h2]
      simpa using hf
    · cases hf
theorem infoB32 : (Tryd.prog.info? 31).map (fun i => (i.size, i.bytes, i.zero.map (·.cells.size))) = some (32, 32, some 32) := by kernel_rfl
section
variable {ev : Operand → Value} {d : Option Tmp} {t : TypeId} {p : String} {af : Array Edge} {gd : Option (Nat × Bool)} {w : World} {x : Operand}
set_option maxRecDepth 100000 in
theorem run_buildBl {X : List UInt8} (hX : X.length = 32) (h1 : ev x = .agg (u8s X).toArray) :
    (execOp ev ⟨d, .buildSlice 43 1 #[(0, x)], t, p, af, gd⟩).run Tryd.prog w = .ok (.value (.slice (some ⟨w.heap.size, 0, none⟩) 1 1)) (w.alloc (.cells (u8s X).toArray 31)) := by
  cases hie : Tryd.prog.info? 31 with
  | none => have := infoB32; rw [hie] at this; cases this
  | some ie =>
    have hq := infoB32
    rw [hie] at hq
    simp only [Option.map_some, Option.some.injEq, Prod.mk.injEq] at hq
    obtain ⟨q1, _, q3⟩ := hq
    cases hz : ie.zero with
    | none => rw [hz] at q3; cases q3
    | some z =>
      have hf : ∀ C : Array Value, C.size = 32 → Instr.fill (fun i => some (i * ie.size, ie.size)) C [(0, .agg (u8s X).toArray)] = some (u8s X).toArray := by
        intro C hC
        rw [fill_step (fun i => some (i * ie.size, ie.size)) C 0 (.agg (u8s X).toArray) (u8s X) 0 (by simp [q1, hX]) rfl [] (by simp [hX, hC])]
        simp only [Instr.fill]
        rw [List.drop_of_length_le (by simp [hX, hC])]
        simp
      have h := run_buildSlice (P := Tryd.prog) w 43 31 1 #[(0, .agg (u8s X).toArray)] (u8s X).toArray ie z Tryd.underlying43 hie hz (by rw [q1]; omega) (by rw [q1]; omega) (hf _ (by simp [q1]))
      simp only [execOp, List.map_toArray, List.map_cons, List.map_nil, h1, Sem.run_bind, h, Result.andThen_ok, Sem.run_pure]
theorem run_buildStr {s : ByteArray} (h1 : ev x = .string s) :
    (execOp ev ⟨d, .buildSlice 42 1 #[(0, x)], t, p, af, gd⟩).run Tryd.prog w = .ok (.value (.slice (some ⟨w.heap.size, 0, none⟩) 1 1)) (w.alloc (.cells #[.string s] 9)) := by
  simp only [execOp]
  go_simp
end
theorem named_L (v : Vt) (nm : List UInt8) : (v.named nm).L = v.L ∧ (v.named nm).names.length ≤ v.names.length + 1 := by
  unfold Vt.named
  split
  · exact ⟨rfl, by simp⟩
  · exact ⟨rfl, by omega⟩
theorem seals_keep (v : Vt) (e c k : Int) (wi b : List UInt8) : (v.seals e c k wi b).2.2.names = v.names ∧ (v.seals e c k wi b).2.2.L.length ≤ v.L.length + 1 ∧ ∀ x, (v.seals e c k wi b).2.2.blind x = v.blind x := by
  unfold Vt.seals
  split
  · split
    · exact ⟨rfl, by simp, fun _ => rfl⟩
    · exact ⟨rfl, by simp [Vt.put], fun _ => rfl⟩
  · exact ⟨rfl, by simp, fun _ => rfl⟩
theorem blind_same (v : Vt) (nm : List UInt8) : (v.named nm).blind nm = v.blind nm := by
  unfold Vt.named
  split
  · rename_i h
    unfold Vt.blind Vt.place
    simp only [h.1, if_true]
    rw [List.idxOf_append, if_neg h.2, List.idxOf_eq_length h.2]
    simp
  · rfl
theorem flatMap_congr' {α β : Type} {l : List α} {f g : α → List β} (h : ∀ x ∈ l, f x = g x) : l.flatMap f = l.flatMap g := by
  rw [List.flatMap_def, List.flatMap_def, List.map_congr_left h]
section
variable {ev : Operand → Value} {d : Option Tmp} {t : TypeId} {p : String} {af : Array Edge} {gd : Option (Nat × Bool)} {w : World} {x y : Operand}
theorem run_sizeK2 {P : Program} {e : TypeId} {k : Nat} (hi : (P.info? e).map (·.size) = some k) (w : World) : (sizeOf e).run P w = .ok k w := by
  cases hq : P.info? e with
  | none => simp [hq] at hi
  | some i =>
    have hs : i.size = k := by simpa [hq] using hi
    simp [sizeOf, typeInfo, hq, hs]
theorem run_idx1 {P : Program} {T e : TypeId} (hT : P.underlying T = some (.slice e)) (hsz : (P.info? e).map (·.size) = some 1) {g n c k : Nat} (h1 : ev x = .slice (some ⟨g, 0, none⟩) n c) (h2 : ev y = .int .i64 (k : Int)) (hk : k < n) :
    (execOp ev ⟨d, .indexAddr T x y, t, p, af, gd⟩).run P w = .ok (.value (.pointer (some ⟨g, k, none⟩))) w := by
  rw [run_idxSl hT hsz h1 h2 hk, add_row, Nat.zero_add]
theorem run_idx32 {P : Program} {T e : TypeId} (hT : P.underlying T = some (.slice e)) (hsz : (P.info? e).map (·.size) = some 32) {g n c k : Nat} (h1 : ev x = .slice (some ⟨g, 0, none⟩) n c) (h2 : ev y = .int .i64 (k : Int)) (hk : k < n) :
    (execOp ev ⟨d, .indexAddr T x y, t, p, af, gd⟩).run P w = .ok (.value (.pointer (some ⟨g, k * 32, none⟩))) w := by
  simp only [execOp, h1, h2]
  go_simp
  simp [run_sizeK2 hsz]
end
theorem blind_length (v : Vt) (nm : List UInt8) : (v.blind nm).length = 32 := by
  unfold Vt.blind
  split <;> simp
end Go.Proofs.YtnmhfomnlnlflaaDoor
