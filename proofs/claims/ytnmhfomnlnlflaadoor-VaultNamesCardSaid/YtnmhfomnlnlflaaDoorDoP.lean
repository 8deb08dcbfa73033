/- What a vault answers to every call, over lists, and what stays true of it. No condition. -/
import Derived.Test.YtnmhfomnlnlflaaDoorKitC
namespace Go.Proofs.YtnmhfomnlnlflaaDoor
/-- A vault that bears few names and sealings, none of them with another's number. -/
structure Good (v : Vt) (N : Nat) : Prop where
  key : v.key.length = 32
  names : v.names.length ≤ N
  seals : v.L.length ≤ N
  each : ∀ x ∈ v.L, x.b.length ≤ 100 ∧ x.wi.length ≤ 40 ∧ x.out.length = x.b.length + 16 ∧ Right x.epoch x.client x.counter
  uniq : ∀ x ∈ v.L, ∀ y ∈ v.L, x.client = y.client → x.counter = y.counter → x = y
theorem Good.more {v : Vt} {N M : Nat} (h : Good v N) (hm : N ≤ M) : Good v M := ⟨h.key, Nat.le_trans h.names hm, Nat.le_trans h.seals hm, h.each, h.uniq⟩
theorem Good.named {v : Vt} {N : Nat} (h : Good v N) (nm : List UInt8) : Good (v.named nm) (N + 1) := by
  unfold Vt.named
  split
  · exact ⟨h.key, by have := h.names; simp only [List.length_append, List.length_singleton]; omega, Nat.le_succ_of_le h.seals, h.each, h.uniq⟩
  · exact h.more (Nat.le_succ N)
theorem out_length (v : Vt) (e c k : Nat) (wi b : List UInt8) : (v.out e c k wi b).length = b.length + 16 := by
  unfold Vt.out
  split
  · rw [drawL_length (by omega)]
  · rw [sealL_length]
theorem Good.put {v : Vt} {N : Nat} (h : Good v N) {e c k : Nat} {wi b : List UInt8} (hr : Right e c k) (hs : ¬ v.spent c k) (hw : wi.length ≤ 40) (hb : b.length ≤ 100) : Good (v.put e c k wi b) (N + 1) := by
  refine ⟨h.key, Nat.le_succ_of_le h.names, by have := h.seals; simp only [Vt.put, List.length_append, List.length_singleton]; omega, fun x hx => ?_, fun x hx y hy h1 h2 => ?_⟩
  · rcases List.mem_append.1 hx with hx | hx
    · exact h.each x hx
    · rw [List.mem_singleton.1 hx]
      exact ⟨hb, hw, out_length _ _ _ _ _ _, hr⟩
  · rcases List.mem_append.1 hx with hx | hx <;> rcases List.mem_append.1 hy with hy | hy
    · exact h.uniq x hx y hy h1 h2
    · rw [List.mem_singleton.1 hy] at h1 h2
      exact absurd ⟨x, hx, h1, h2⟩ hs
    · rw [List.mem_singleton.1 hx] at h1 h2
      exact absurd ⟨y, hy, h1.symm, h2.symm⟩ hs
    · rw [List.mem_singleton.1 hx, List.mem_singleton.1 hy]
open Classical in
/-- What sealing answers: bytes, an error's number, the vault behind it. -/
noncomputable def Vt.seals (v : Vt) (e c k : Int) (wi b : List UInt8) : List UInt8 × Nat × Vt :=
  if Right e c k then (if v.spent c.toNat k.toNat then ([], 13, v) else (v.out e.toNat c.toNat k.toNat wi b, 0, v.put e.toNat c.toNat k.toNat wi b)) else ([], 1, v)
theorem Good.seals_ {v : Vt} {N : Nat} (h : Good v N) (e c k : Int) {wi b : List UInt8} (hw : wi.length ≤ 40) (hb : b.length ≤ 100) : Good (v.seals e c k wi b).2.2 (N + 1) := by
  unfold Vt.seals
  split
  · split
    · exact h.more (Nat.le_succ N)
    · rename_i h1 h2
      refine h.put ?_ h2 hw hb
      obtain ⟨a1, a2, a3, a4, a5, a6⟩ := h1
      unfold Right
      omega
  · exact h.more (Nat.le_succ N)
theorem seals_ideal (v : Vt) (e c k : Int) (wi b : List UInt8) : (v.seals e c k wi b).2.2.ideal = v.ideal := by
  unfold Vt.seals
  split
  · split <;> rfl
  · rfl
theorem named_ideal (v : Vt) (nm : List UInt8) : (v.named nm).ideal = v.ideal := by
  unfold Vt.named
  split <;> rfl
/-- What opening answers, whatever the numbers. -/
def Vt.openI (v : Vt) (e c k : Int) (wi s : List UInt8) (r : List UInt8 × Nat) : Prop :=
  (Right e c k ∧ v.opens e.toNat c.toNat k.toNat wi s r) ∨ (¬ Right e c k ∧ r = ([], 1))
theorem opens_fun {v : Vt} {N : Nat} (h : Good v N) {e c k : Nat} {wi s : List UInt8} {r q : List UInt8 × Nat} (h1 : v.opens e c k wi s r) (h2 : v.opens e c k wi s q) : r = q := by
  unfold Vt.opens at h1 h2
  by_cases hl : s.length < 16
  · rw [if_pos hl] at h1 h2; rw [h1, h2]
  · rw [if_neg hl] at h1 h2
    by_cases hi : v.ideal = true
    · rw [if_pos hi] at h1 h2
      rcases h1 with ⟨x, hx, hs, rfl⟩ | ⟨hn, rfl⟩ <;> rcases h2 with ⟨y, hy, ht, rfl⟩ | ⟨hm, rfl⟩
      · rw [h.uniq x hx y hy (hs.2.1.trans ht.2.1.symm) (hs.2.2.1.trans ht.2.2.1.symm)]
      · exact absurd hs (hm x hx)
      · exact absurd ht (hn y hy)
      · rfl
    · rw [if_neg hi] at h1 h2
      split at h1
      · rename_i hc; rw [if_pos hc] at h2; rw [h1, h2]
      · rename_i hc; rw [if_neg hc] at h2; rw [h1, h2]
theorem openI_fun {v : Vt} {N : Nat} (h : Good v N) {e c k : Int} {wi s : List UInt8} {r q : List UInt8 × Nat} (h1 : v.openI e c k wi s r) (h2 : v.openI e c k wi s q) : r = q := by
  rcases h1 with ⟨a, h1⟩ | ⟨a, h1⟩ <;> rcases h2 with ⟨b, h2⟩ | ⟨b, h2⟩
  · exact opens_fun h h1 h2
  · exact absurd a b
  · exact absurd b a
  · rw [h1, h2]
theorem opens_length {v : Vt} {N : Nat} (h : Good v N) {e c k : Nat} {wi s : List UInt8} {r : List UInt8 × Nat} (h1 : v.opens e c k wi s r) : r.1.length ≤ s.length + 100 := by
  unfold Vt.opens at h1
  by_cases hl : s.length < 16
  · rw [if_pos hl] at h1; rw [h1]; simp
  · rw [if_neg hl] at h1
    by_cases hi : v.ideal = true
    · rw [if_pos hi] at h1
      rcases h1 with ⟨x, hx, hs, rfl⟩ | ⟨hn, rfl⟩
      · have := (h.each x hx).1; simp only; omega
      · simp
    · rw [if_neg hi] at h1
      split at h1 <;> rw [h1] <;> simp
      omega
end Go.Proofs.YtnmhfomnlnlflaaDoor
