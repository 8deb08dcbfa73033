/- Two ideal vaults, one of them with its names xor-ed: they answer alike. No condition. -/
import Derived.Test.YtnmhfomnlnlflaaDoorDoP
namespace Go.Proofs.YtnmhfomnlnlflaaDoor
def xorB (y : UInt8) (l : List UInt8) : List UInt8 := l.map (· ^^^ y)
theorem xor_cancel (x y : UInt8) : (x ^^^ y) ^^^ y = x := by rw [UInt8.xor_assoc, UInt8.xor_self, UInt8.xor_zero]
theorem xorB_twice (y : UInt8) (l : List UInt8) : xorB y (xorB y l) = l := by
  unfold xorB
  rw [List.map_map]
  exact (List.map_congr_left fun x _ => xor_cancel x y).trans (List.map_id _)
theorem xorB_inj {y : UInt8} {a b : List UInt8} (h : xorB y a = xorB y b) : a = b := by rw [← xorB_twice y a, h, xorB_twice]
@[simp] theorem xorB_length (y : UInt8) (l : List UInt8) : (xorB y l).length = l.length := by simp [xorB]
def xorAt (y : UInt8) (l : List UInt8) (j : Nat) : List UInt8 := (l.take j).map (· ^^^ y) ++ l.drop j
theorem xorAt_length (y : UInt8) (l : List UInt8) (j : Nat) : (xorAt y l j).length = l.length := by
  simp [xorAt]
  omega
theorem xorAt_zero (y : UInt8) (l : List UInt8) : xorAt y l 0 = l := by simp [xorAt]
theorem xorAt_all (y : UInt8) (l : List UInt8) {j : Nat} (h : l.length ≤ j) : xorAt y l j = xorB y l := by
  simp [xorAt, xorB, List.take_of_length_le h, List.drop_of_length_le h]
theorem xorAt_get (y : UInt8) (l : List UInt8) {j : Nat} (hj : j < l.length) : (xorAt y l j)[j]? = l[j]? := by
  unfold xorAt
  rw [List.getElem?_append_right (by simp; omega)]
  simp [Nat.min_eq_left (Nat.le_of_lt hj)]
theorem xorAt_step (y : UInt8) (l : List UInt8) {j : Nat} {b : UInt8} (hb : (xorAt y l j)[j]? = some b) (hj : j < l.length) : (xorAt y l j).set j (b ^^^ y) = xorAt y l (j + 1) := by
  rw [xorAt_get y l hj] at hb
  unfold xorAt
  have hm : ((l.take j).map (· ^^^ y)).length = j := by simp; omega
  rw [List.set_append_right _ _ (by omega), hm, Nat.sub_self, List.drop_eq_getElem_cons hj]
  rw [List.getElem?_eq_getElem hj] at hb
  injection hb with hb
  rw [List.set_cons_zero, List.take_succ_eq_append_getElem hj, List.map_append]
  simp [hb]
structure Twin (y : UInt8) (a b : Vt) : Prop where
  ia : a.ideal = true
  ib : b.ideal = true
  key : b.key = a.key
  names : b.names = a.names.map (xorB y)
  used : b.L.map (fun s => (s.client, s.counter)) = a.L.map (fun s => (s.client, s.counter))
theorem idxOf_map_xor (y : UInt8) (nm : List UInt8) : ∀ l : List (List UInt8), (l.map (xorB y)).idxOf (xorB y nm) = l.idxOf nm
  | [] => rfl
  | x :: r => by
    rw [List.map_cons, List.idxOf_cons, List.idxOf_cons, idxOf_map_xor y nm r]
    by_cases h : x = nm
    · subst h; simp
    · have h2 : xorB y x ≠ xorB y nm := fun e => h (xorB_inj e)
      rw [beq_false_of_ne h, beq_false_of_ne h2]
theorem Twin.len {y : UInt8} {a b : Vt} (h : Twin y a b) : b.L.length = a.L.length := by
  have := congrArg List.length h.used
  simpa using this
theorem Twin.mem {y : UInt8} {a b : Vt} (h : Twin y a b) (nm : List UInt8) : xorB y nm ∈ b.names ↔ nm ∈ a.names := by
  rw [h.names, List.mem_map]
  constructor
  · rintro ⟨x, hx, e⟩
    rwa [← xorB_inj e]
  · exact fun hx => ⟨nm, hx, rfl⟩
theorem Twin.blind {y : UInt8} {a b : Vt} (h : Twin y a b) (nm : List UInt8) : b.blind (xorB y nm) = a.blind nm := by
  unfold Vt.blind Vt.place
  rw [h.ia, h.ib, h.key, h.names, idxOf_map_xor, if_pos rfl, if_pos rfl]
theorem Twin.named {y : UInt8} {a b : Vt} (h : Twin y a b) (nm : List UInt8) : Twin y (a.named nm) (b.named (xorB y nm)) := by
  unfold Vt.named
  by_cases hm : nm ∈ a.names
  · have hm2 := (h.mem nm).2 hm
    rw [if_neg (by simp [hm]), if_neg (by simp [hm2])]
    exact h
  · have hm2 : xorB y nm ∉ b.names := fun e => hm ((h.mem nm).1 e)
    rw [if_pos ⟨h.ia, hm⟩, if_pos ⟨h.ib, hm2⟩]
    exact ⟨h.ia, h.ib, h.key, by simp [h.names], h.used⟩
theorem spent_iff (v : Vt) (c k : Nat) : v.spent c k ↔ (c, k) ∈ v.L.map (fun s => (s.client, s.counter)) := by
  unfold Vt.spent
  simp
theorem Twin.spent {y : UInt8} {a b : Vt} (h : Twin y a b) (c k : Nat) : b.spent c k ↔ a.spent c k := by rw [spent_iff, spent_iff, h.used]
theorem Twin.seals {y : UInt8} {a b : Vt} (h : Twin y a b) (e c k : Int) (wi wi2 p : List UInt8) :
    (b.seals e c k wi2 (xorB y p)).1 = (a.seals e c k wi p).1 ∧ (b.seals e c k wi2 (xorB y p)).2.1 = (a.seals e c k wi p).2.1 ∧ Twin y (a.seals e c k wi p).2.2 (b.seals e c k wi2 (xorB y p)).2.2 := by
  unfold Vt.seals
  by_cases hr : Right e c k
  · rw [if_pos hr, if_pos hr]
    by_cases hs : a.spent c.toNat k.toNat
    · rw [if_pos hs, if_pos ((h.spent _ _).2 hs)]
      exact ⟨rfl, rfl, h⟩
    · rw [if_neg hs, if_neg (fun e => hs ((h.spent _ _).1 e))]
      refine ⟨?_, rfl, h.ia, h.ib, h.key, h.names, ?_⟩
      · simp only [Vt.out, h.ia, h.ib, if_true, h.key, h.len, xorB_length]
      · simp only [Vt.put, List.map_append, h.used, List.map_cons, List.map_nil]
  · rw [if_neg hr, if_neg hr]
    exact ⟨rfl, rfl, h⟩
open Classical in
/-- What asking for a name answers: bytes, an error's number, the vault behind it. -/
noncomputable def Vt.blinds (v : Vt) (nm : List UInt8) : List UInt8 × Nat × Vt := if 1 ≤ nm.length ∧ nm.length ≤ 64 then (v.blind nm, 0, v.named nm) else (List.replicate 32 0, 1, v)
theorem Twin.blinds {y : UInt8} {a b : Vt} (h : Twin y a b) (nm : List UInt8) : (b.blinds (xorB y nm)).1 = (a.blinds nm).1 ∧ (b.blinds (xorB y nm)).2.1 = (a.blinds nm).2.1 ∧ Twin y (a.blinds nm).2.2 (b.blinds (xorB y nm)).2.2 := by
  unfold Vt.blinds
  rw [xorB_length]
  split
  · exact ⟨h.blind nm, rfl, h.named nm⟩
  · exact ⟨rfl, rfl, h⟩
theorem blinds_length (v : Vt) (nm : List UInt8) : (v.blinds nm).1.length = 32 := by
  unfold Vt.blinds Vt.blind
  split
  · simp only
    split <;> simp
  · simp
/-- Few names, few sealings. -/
def Few (v : Vt) (N : Nat) : Prop := v.names.length ≤ N ∧ v.L.length ≤ N
theorem Few.blinds {v : Vt} {N : Nat} (h : Few v N) (nm : List UInt8) : Few (v.blinds nm).2.2 (N + 1) := by
  unfold Vt.blinds
  split
  · unfold Vt.named
    simp only
    split
    · exact ⟨by simp only [List.length_append, List.length_singleton]; have := h.1; omega, Nat.le_succ_of_le h.2⟩
    · exact ⟨Nat.le_succ_of_le h.1, Nat.le_succ_of_le h.2⟩
  · exact ⟨Nat.le_succ_of_le h.1, Nat.le_succ_of_le h.2⟩
theorem Few.seals {v : Vt} {N : Nat} (h : Few v N) (e c k : Int) (wi b : List UInt8) : Few (v.seals e c k wi b).2.2 (N + 1) := by
  unfold Vt.seals
  split
  · split
    · exact ⟨Nat.le_succ_of_le h.1, Nat.le_succ_of_le h.2⟩
    · exact ⟨Nat.le_succ_of_le h.1, by simp only [Vt.put, List.length_append, List.length_singleton]; have := h.2; omega⟩
  · exact ⟨Nat.le_succ_of_le h.1, Nat.le_succ_of_le h.2⟩
end Go.Proofs.YtnmhfomnlnlflaaDoor
