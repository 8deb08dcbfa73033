/- append to an empty slice literal: new blocks alone. No condition. -/
import Derived.Test.YthpgldfjcancjaaDoorKitM
namespace Go.Proofs.YthpgldfjcancjaaDoor
open Go.RowKit
section
variable {P : Program} {w : World}
theorem run_append_fresh (base : Nat) (t ty e : TypeId) (i : TypeInfo) (z : Value) (size bytes : Nat) (ht : P.underlying t = some (.slice e)) (hi : P.info? e = some i) (hz : i.zero = some z)
    (hsize : i.size = size) (hby : i.bytes = bytes) (hzs : z.cells.size = size) (hsz : 0 < size) (g : Nat) (hown : w.ownsRow base e size (.slice (some ⟨g, 0, none⟩) 0 0) 0 [])
    (a : Addr) (m c2 : Nat) (news : List Value) (hl : news.length = m * size) (hnews : ∀ j u, news[j]? = some u → w.cell? (a.add j) = some u) (h1 : ∀ u ∈ news, u.oneCell' = true)
    (h63 : m ≤ maxLen) (hbytes : m * bytes ≤ 140737488355328) (hbase : base ≤ w.heap.size) :
    ∃ A' c' w', (Builtin.append_ #[t, t] ty #[.slice (some ⟨g, 0, none⟩) 0 0, .slice (some a) m c2]).run P w = .ok (.slice A' m c') w' ∧ w'.ownsRow base e size (.slice A' m c') m news ∧ Gr w w' := by
  obtain ⟨A', c', w', hr, h2, hT, hold, _⟩ := run_append_keep (P := P) base t ty e i z size bytes ht hi hz hsize hby hzs hsz (some ⟨g, 0, none⟩) 0 0 [] hown a m c2 news hl hnews h1 (by omega) (by rw [Nat.zero_add]; exact hbytes) hbase
  rw [Nat.zero_add] at hr h2
  rw [List.nil_append] at h2
  refine ⟨A', c', w', hr, h2, hT.os, hT.tape, hT.output, hT.size, fun k hk => ?_⟩
  by_cases hkg : k = g
  · subst hkg
    rcases hown.2 with ⟨e1, _⟩ | ⟨g1, cap1, cur1, e1, _, b1, _, _, s1, _⟩
    · cases e1
    · rcases hold.2 with ⟨e2, _⟩ | ⟨g2, cap2, cur2, e2, _, b2, _, _, s2, _⟩
      · cases e2
      · injection e1 with e1 _ e3
        injection e2 with e2 _ e4
        injection e1 with e1
        injection e2 with e2
        injection e1 with e1
        injection e2 with e2
        subst e1 e2 e3 e4
        rw [Nat.zero_mul] at s1 s2
        rw [b1, b2, Array.size_eq_zero_iff.1 s1, Array.size_eq_zero_iff.1 s2]
  · refine hT.block k hk (.inr ?_)
    cases w.heap[k]? with
    | none => rfl
    | some o => exact blkT_far (A := some ⟨g, 0, none⟩) (fun ad h => by injection h with h; subst h; exact fun e => hkg e.symm) o
end
/-- Numbers as cells. -/
def intV (l : List Nat) : List Value := l.map fun x : Nat => Value.int .i64 (x : Int)
@[simp] theorem intV_length (l : List Nat) : (intV l).length = l.length := by simp [intV]
theorem intV_at {l : List Nat} {i x : Nat} (h : l[i]? = some x) : (intV l)[i]? = some (.int .i64 (x : Int)) := by simp [intV, h]
theorem intV_one (l : List Nat) : ∀ u ∈ intV l, u.oneCell' = true := by
  intro u hu
  unfold intV at hu
  obtain ⟨x, _, rfl⟩ := List.mem_map.1 hu
  rfl
theorem intV_append (a b : List Nat) : intV (a ++ b) = intV a ++ intV b := by simp [intV]
theorem intV_take (l : List Nat) (k : Nat) : (intV l).take k = intV (l.take k) := by simp [intV, List.map_take]
theorem intV_drop (l : List Nat) (k : Nat) : (intV l).drop k = intV (l.drop k) := by simp [intV, List.map_drop]
end Go.Proofs.YthpgldfjcancjaaDoor
