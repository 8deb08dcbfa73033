/- Texts of one proof, laid as one: part 15. No condition. -/
import Derived.Laws.IdiomCopy
import Derived.Laws.OwnMore
import Derived.Test.YtjpphldojbfpfaaGreatDoorZf11
import Derived.Test.YtjpphldojbfpfaaGreatDoorZf14
namespace Go.Proofs.YtjpphldojbfpfaaGreatDoor
open Go.RowKit
def keepN (L : List SibU) : Nat → List SibU
  | 0 => []
  | i + 1 => match L[i]? with
    | none => keepN L i
    | some x => if i ≠ 0 ∧ L[i - 1]?.map (fun y => y.1.d) = some x.1.d then keepN L i else keepN L i ++ [x]
theorem keepN_mem {L : List SibU} : ∀ i, ∀ y ∈ keepN L i, ∃ j, j < i ∧ L[j]? = some y := by
  intro i
  induction i with
  | zero => intro y hy; cases hy
  | succ i ih =>
    intro y hy; unfold keepN at hy; cases hx : L[i]? with
    | none =>
      rw [hx] at hy; obtain ⟨j, h1, h2⟩ := ih y hy; exact ⟨j, by omega, h2⟩
    | some x =>
      rw [hx] at hy; simp only at hy; split at hy
      · obtain ⟨j, h1, h2⟩ := ih y hy; exact ⟨j, by omega, h2⟩
      · rcases List.mem_append.1 hy with hy | hy
        · obtain ⟨j, h1, h2⟩ := ih y hy; exact ⟨j, by omega, h2⟩
        · have : y = x := by simpa using hy
          exact ⟨i, by omega, by rw [hx, this]⟩
theorem keepN_cover {L : List SibU} : ∀ i j x, j < i → L[j]? = some x → ∃ y ∈ keepN L i, y.1.d = x.1.d := by
  intro i
  induction i with
  | zero => intro j x h; omega
  | succ i ih =>
    intro j x hj hx; unfold keepN; rcases Nat.lt_or_eq_of_le (Nat.le_of_lt_succ hj) with h | h
    · obtain ⟨y, hy, hd⟩ := ih j x h hx; cases L[i]? with
      | none => exact ⟨y, hy, hd⟩
      | some z =>
        simp only; split
        · exact ⟨y, hy, hd⟩
        · exact ⟨y, List.mem_append_left _ hy, hd⟩
    · subst h; rw [hx]; simp only; split
      · rename_i hc
        obtain ⟨hc1, hc2⟩ := hc; cases hz : L[j - 1]? with
        | none => rw [hz] at hc2; cases hc2
        | some z =>
          rw [hz] at hc2; obtain ⟨y, hy, hd⟩ := ih (j - 1) z (by omega) hz; refine ⟨y, hy, hd.trans ?_⟩; exact Option.some.inj hc2
      · exact ⟨x, List.mem_append_right _ (List.mem_singleton.2 rfl), rfl⟩
theorem keepN_sorted {L : List SibU} (hs : L.Pairwise fun p q => ¬ dLt q.1.d p.1.d) : ∀ i, (keepN L i).Pairwise fun p q => dLt p.1.d q.1.d := by
  have hle : ∀ (i j : Nat) (x y : SibU), i ≤ j → L[i]? = some x → L[j]? = some y → ¬ dLt y.1.d x.1.d := by
    intro i j x y hij hx hy; obtain ⟨l1, e1⟩ := List.getElem?_eq_some_iff.1 hx; obtain ⟨l2, e2⟩ := List.getElem?_eq_some_iff.1 hy; rcases Nat.lt_or_eq_of_le hij with h | h
    · have := List.pairwise_iff_getElem.1 hs i j l1 l2 h
      rwa [e1, e2] at this
    · subst h; rw [e1] at e2; rw [e2]; exact dLt_irrefl _
  intro i
  induction i with
  | zero => exact List.Pairwise.nil
  | succ i ih =>
    unfold keepN; cases hx : L[i]? with
    | none => exact ih
    | some x =>
      simp only; split
      · exact ih
      · rename_i hc
        rw [List.pairwise_append]; refine ⟨ih, List.pairwise_singleton _ _, fun y hy z hz => ?_⟩; have hzx : z = x := by simpa using hz
        rw [hzx]; obtain ⟨j, hj, hyj⟩ := keepN_mem i y hy; have hi0 : i ≠ 0 := by omega
        have hil := (List.getElem?_eq_some_iff.1 hx).1; obtain ⟨u, hu⟩ : ∃ u, L[i - 1]? = some u := ⟨_, List.getElem?_eq_getElem (by omega)⟩; have h1 := hle j (i - 1) y u (by omega) hyj hu; have h2 := hle (i - 1) i u x (by omega) hu hx; have h3 : u.1.d ≠ x.1.d := fun e => hc ⟨hi0, by rw [hu, Option.map_some, e]⟩; rcases dLt_total u.1.d x.1.d with h | h | h
        · rcases dLt_total y.1.d u.1.d with h' | h' | h'
          · exact dLt_trans h' h
          · rw [h']; exact h
          · exact absurd h' h1
        · exact absurd h h3
        · exact absurd h h2
theorem zeroCells_length (cs : Array Value) (n : Nat) : (Builtin.zeroCells cs n).toList.length = n * cs.size := by
  simp [Builtin.zeroCells]
theorem run_clearK {P : Program} {w : World} {t e ty T : TypeId} {z : Value} (ht : P.underlying t = some (.slice e)) (hv : ∀ w, (zeroValue e).run P w = .ok z w) (h1 : ∀ v ∈ z.cells.toList, v.oneCell' = true) {b o n c : Nat} (hn : 0 < n) {cs : List Value} (hA : Arr w b T cs) (hle : o + n * z.cells.size ≤ cs.length) (hz : 0 < z.cells.size) :
    (Builtin.clear_ #[t] ty #[.slice (some ⟨b, o, none⟩) n c]).run P w = .ok (.tuple #[]) (w.setCells b o (Builtin.zeroCells z.cells n).toList) := by
  have hl := zeroCells_length z.cells n
  have hone : ∀ v ∈ (Builtin.zeroCells z.cells n).toList, v.oneCell' = true := by
    intro v hv; unfold Builtin.zeroCells at hv; rw [Array.toList_map] at hv; obtain ⟨i, _, rfl⟩ := List.mem_map.1 hv; have hi : i % z.cells.size < z.cells.size := Nat.mod_lt _ hz; apply h1
    rw [getElem!_def, Array.getElem?_eq_getElem hi]; exact Array.getElem_mem_toList hi
  obtain ⟨vs, hvs⟩ : ∃ vs, vs = (Builtin.zeroCells z.cells n).toList := ⟨_, rfl⟩; rw [← hvs] at hl hone ⊢; have hst := Go.run_storeCells_cells (P := P) b o vs 0 w (fun j hj => by rw [Nat.add_zero, hA.cell (List.getElem?_eq_getElem (by omega))]; rfl) (fun j hj => hA.frozen _) hone; simp only [Nat.add_zero] at hst; obtain ⟨m, rfl⟩ : ∃ m, n = m + 1 := ⟨n - 1, by omega⟩; simp [Builtin.clear_, run_underlying ht, hv, ← hvs, hst]
end Go.Proofs.YtjpphldojbfpfaaGreatDoor
namespace Go.Proofs.YtjpphldojbfpfaaGreatDoor
open Go.RowKit
set_option maxRecDepth 100000 in
set_option maxHeartbeats 4000000 in
theorem eqS_any {x y : SibV} (hx : x.c.upto.length = 16) (hy : y.c.upto.length = 16) (w : World) : Calls Tryz.prog 64 #[.agg (sibC x).toArray, .agg (sibC y).toArray] w fun e w' => e = .returned (.bool (decide (x.d = y.d))) ∧ GG w w' := by
  obtain ⟨xs, hxs⟩ : ∃ xs, xs = sibC x := ⟨_, rfl⟩; obtain ⟨ys, hys⟩ : ∃ ys, ys = sibC y := ⟨_, rfl⟩; rw [← hxs, ← hys]; have h2 : Arr (w.alloc (.cells xs.toArray 45)) w.heap.size 45 xs := Arr.newAt rfl rfl; have hsz : (w.alloc (.cells xs.toArray 45)).heap.size = w.heap.size + 1 := Array.size_push _; have h3 : Arr ((w.alloc (.cells xs.toArray 45)).alloc (.cells ys.toArray 45)) (w.heap.size + 1) 45 ys := by rw [← hsz]; exact Arr.newAt rfl rfl
  have h23 := h2.gr (Gr.alloc (w.alloc (.cells xs.toArray 45)) (.cells ys.toArray 45)); have gb : GG w ((w.alloc (.cells xs.toArray 45)).alloc (.cells ys.toArray 45)) := (GG.alloc _ _).trans (GG.alloc _ _); have r2 : ((w.alloc (.cells xs.toArray 45)).alloc (.cells ys.toArray 45)).rangeAt w.heap.size 0 (encD x.d) := (SibAt.of hx (by rw [← hxs]; exact Arr.range h23)).dot; have r3 : ((w.alloc (.cells xs.toArray 45)).alloc (.cells ys.toArray 45)).rangeAt (w.heap.size + 1) 0 (encD y.d) := (SibAt.of hy (by rw [← hys]; exact Arr.range h3)).dot; clear h2 hsz h3 h23 hxs hys
  go_enter Tryz.func64, Tryz.ntmps64
  go_upto_region 1 with fail
  change Code.wp _ _ _ _ ((w.alloc (.cells xs.toArray 45)).alloc (.cells ys.toArray 45)); generalize (w.alloc (.cells xs.toArray 45)).alloc (.cells ys.toArray 45) = w0 at gb r2 r3 ⊢; generalize w.heap.size + 1 = g3 at r3 ⊢; generalize w.heap.size = g2 at r2 ⊢
  go_wp2_with first
    | (refine wpList_loadT rfl 38 (.tmp 5) rfl g2 0 (by kernel_rfl) (encD x.d) r2 Tryz.underlying38 rfl (infoDot x.d) ?_)
    | (refine wpList_loadT rfl 38 (.tmp 7) rfl g3 0 (by kernel_rfl) (encD y.d) r3 Tryz.underlying38 rfl (infoDot y.d) ?_)
    | (refine wpList_valW rfl (.bool (decide (x.d = y.d))) _ (run_eqDot (x := .tmp 6) (y := .tmp 8) rfl rfl) ?_)
  go_ret
  exact ⟨rfl, gb⟩
section
variable {α : Type} {enc : α → List Value} {k : Nat}
theorem flat_len (hk : ∀ x, (enc x).length = k) (M : List α) : (M.flatMap enc).length = M.length * k := by
  rw [List.length_flatMap]
  have : (M.map fun x => (enc x).length) = List.replicate M.length k := by
    rw [List.eq_replicate_iff]; refine ⟨by simp, fun b hb => ?_⟩; obtain ⟨x, _, rfl⟩ := List.mem_map.1 hb; exact hk x
  rw [this, List.sum_replicate_nat]
theorem flat_set (hk : ∀ x, (enc x).length = k) : ∀ (M : List α) (j : Nat) (x : α), j < M.length → (M.flatMap enc).take (j * k) ++ enc x ++ (M.flatMap enc).drop (j * k + k) = (M.set j x).flatMap enc := by
  intro M
  induction M with
  | nil => intro j x h; simp at h
  | cons a M ih =>
    intro j x h; cases j with
    | zero =>
      simp only [List.flatMap_cons, Nat.zero_mul, List.take_zero, List.nil_append, Nat.zero_add, List.set_cons_zero]; rw [List.drop_append_of_le_length (by rw [hk]; exact Nat.le_refl _), List.drop_of_length_le (by rw [hk]; exact Nat.le_refl _), List.nil_append]
    | succ j =>
      have ih' := ih j x (by simpa using h); simp only [List.flatMap_cons, List.set_cons_succ]; rw [← ih', Nat.add_mul, Nat.one_mul]
      have e1 : (enc a ++ M.flatMap enc).take (j * k + k) = enc a ++ (M.flatMap enc).take (j * k) := by
        rw [List.take_append, hk, List.take_of_length_le (by rw [hk]; omega)]; congr 2
        omega
      have e2 : (enc a ++ M.flatMap enc).drop (j * k + k + k) = (M.flatMap enc).drop (j * k + k) := by
        rw [List.drop_append, hk, List.drop_of_length_le (by rw [hk]; omega), List.nil_append]; congr 1
        omega
      rw [e1, e2]; simp only [List.append_assoc]
theorem arr_set (hk : ∀ x, (enc x).length = k) {w : World} {g j : Nat} {t : TypeId} {M : List α} {rest : List Value} {x : α} (h : Arr w g t (M.flatMap enc ++ rest)) (hj : j < M.length) : Arr (w.setCells g (j * k) (enc x)) g t ((M.set j x).flatMap enc ++ rest) := by
  have hl := flat_len hk M
  have hjk : j * k + k ≤ M.length * k := by
    have := Nat.mul_le_mul_right k (show j + 1 ≤ M.length from hj)
    rwa [Nat.add_mul, Nat.one_mul] at this
  have h1 := Arr.setCells_from (enc x) (j * k) w _ h (by rw [List.length_append, hl, hk]; omega); rw [hk, List.take_append_of_le_length (by omega), List.drop_append_of_le_length (by omega), ← List.append_assoc, flat_set hk M j x hj] at h1; exact h1
end
end Go.Proofs.YtjpphldojbfpfaaGreatDoor
namespace Go.Proofs.YtjpphldojbfpfaaGreatDoor
open Go.RowKit
abbrev Sec := { l : List UInt8 // l.length = 64 }
def encS (x : Sec) : List Value := u8s x.1
theorem encS_len (x : Sec) : (encS x).length = 64 := by rw [encS, u8s_length, x.2]
theorem encS_one (x : Sec) : ∀ u ∈ encS x, u.oneCell' = true := u8s_oneCell _
def zeroSec : Sec := ⟨List.replicate 64 0, rfl⟩
def padSec (l : List UInt8) : Sec := ⟨(l ++ List.replicate 64 0).take 64, by rw [List.length_take, List.length_append, List.length_replicate]; omega⟩
theorem secs_len (L : List Sec) : (L.flatMap encS).length = L.length * 64 := by
  induction L with
  | nil => rfl
  | cons x L ih => rw [List.flatMap_cons, List.length_append, encS_len, ih, List.length_cons]; omega
theorem secs_one (L : List Sec) : ∀ u ∈ L.flatMap encS, u.oneCell' = true := fun u hu => by
  obtain ⟨x, _, h⟩ := List.mem_flatMap.1 hu; exact encS_one x u h
theorem infoSec_parts : ∃ i z, Tryz.prog.info? 71 = some i ∧ i.zero = some z ∧ i.size = 64 ∧ i.bytes = 64 ∧ z.cells.size = 64 ∧ z.cells.toList = encS zeroSec := by
  have h : (Tryz.prog.info? 71).map (fun i => (i.size, i.bytes, i.zero.map (·.cells))) = some (64, 64, some (encS zeroSec).toArray) := by kernel_rfl
  cases hi : Tryz.prog.info? 71 with
  | none => rw [hi] at h; simp at h
  | some i =>
    rw [hi] at h; simp only [Option.map_some, Option.some.injEq, Prod.mk.injEq, Option.map_eq_some_iff] at h; obtain ⟨h1, h2, z, h3, h4⟩ := h; exact ⟨i, z, rfl, h3, h1, h2, by rw [h4]; rfl, by rw [h4]⟩
theorem infoSec (x : Sec) : (Tryz.prog.info? 71).map (·.size) = some (encS x).length := by
  rw [encS_len]
  kernel_rfl
theorem sec_at {w : World} {g i : Nat} {t : TypeId} {L : List Sec} {R : List Value} {x : Sec} (h : Arr w g t (L.flatMap encS ++ R)) (hx : L[i]? = some x) : w.rangeAt g (i * 64) (encS x) := fun j u hu => by
  have h1 := flat_at encS_len hx hu
  have h2 : (L.flatMap encS ++ R)[i * 64 + j]? = some u := by
    rw [List.getElem?_append_left (List.getElem?_eq_some_iff.1 h1).1]; exact h1
  exact h.cell h2
theorem own_arrK {w : World} {B g n c k : Nat} {e : TypeId} {xs : List Value} (h : w.ownsRow B e k (.slice (some ⟨g, 0, none⟩) n c) n xs) : ∃ R, Arr w g e (xs ++ R) ∧ n ≤ c ∧ B ≤ g := by
  rcases h.2 with ⟨e1, _⟩ | ⟨g', cap, cur, e1, hb, hg, hc, _, hs, ht⟩
  · cases e1
  · injection e1 with e1 e2 e3
    injection e1 with e1
    injection e1 with e1
    subst e1 e3; refine ⟨cur.toList.drop (n * k), ?_, hc, hb⟩; unfold Arr; rw [hg, ← ht, List.take_append_drop]
theorem madeSec {z : Value} (hz : z.cells.toList = encS zeroSec) : ∀ n, (madeCells z.cells (n * 64)).toList = (List.replicate n zeroSec).flatMap encS := by
  intro n; have hs : z.cells.size = 64 := by rw [← Array.length_toList, hz, encS_len]
  apply List.ext_getElem?
  intro i; unfold madeCells
  by_cases hi : i < n * 64
  · have h0 : ∀ j, j < 64 → z.cells[j]! = .int .u8 0 := fun j hj => by
      have : z.cells.toList[j]? = some (.int .u8 0) := by
        rw [hz]; unfold encS zeroSec u8s; rw [List.getElem?_map, List.getElem?_replicate, if_pos hj]; rfl
      rw [Array.getElem!_eq_getD, Array.getD_eq_getD_getElem?, ← Array.getElem?_toList, this]; rfl
    have h1 : ((List.replicate n zeroSec).flatMap encS)[i]? = some (.int .u8 0) := by
      have e := flat_at (enc := encS) (k := 64) encS_len (L := List.replicate n zeroSec) (i := i / 64) (j := i % 64) (x := zeroSec) (u := .int .u8 0) (by rw [List.getElem?_replicate, if_pos (by omega)]) (by
        unfold encS zeroSec u8s; rw [List.getElem?_map, List.getElem?_replicate, if_pos (by omega)]; rfl)
      rwa [show i / 64 * 64 + i % 64 = i by omega] at e
    rw [h1]; simp only [Array.toList_map, Array.toList_range, List.getElem?_map, List.getElem?_range hi, Option.map_some, hs]; rw [h0 _ (by omega)]
  · rw [List.getElem?_eq_none (by simp; omega), List.getElem?_eq_none (by rw [secs_len, List.length_replicate]; omega)]
section
variable {P : Program}
theorem run_copyK (w : World) (dT sT ty elem : TypeId) (k b o dLen dCap : Nat) (a : Addr) (sLen sCap : Nat) (cs : List Value)
    (hu : P.underlying dT = some (.slice elem)) (hs : (P.info? elem).map (·.size) = some k) (hn : cs.length = Nat.min sLen dLen * k)
    (hsrc : ∀ j v, cs[j]? = some v → w.cell? (a.add j) = some v) (hc : ∀ j, j < cs.length → (w.cell? ⟨b, o + j, none⟩).isSome = true) (hf : ∀ j, j < cs.length → w.frozen? ⟨b, o + j, none⟩ = false) (h1 : ∀ v ∈ cs, v.oneCell' = true) :
    (Builtin.copy_ #[dT, sT] ty #[.slice (some ⟨b, o, none⟩) dLen dCap, .slice (some a) sLen sCap]).run P w = .ok (goInt (Nat.min sLen dLen)) (w.setCells b o cs) := by
  have hl := run_loadCells_list (P := P) w a cs hsrc; have hst := run_storeCells_cells (P := P) b o cs 0 w (by simpa using hc) (by simpa using hf) h1; cases hq : P.info? elem with
  | none => simp [hq] at hs
  | some i =>
    have hi : i.size = k := by simpa [hq] using hs
    rw [hn] at hl; simp [Builtin.copy_, run_underlying hu, Builtin.lenOf, Builtin.firstCells, sizeOf, typeInfo, hq, hi, hl, hst]
theorem wpList_copyK {ops : Array Oper} {rest : List Oper} {o : Oper} {a : Act} {Q : Exit → Act → World → Prop} {w : World} {t t2 : TypeId} {g g2 : Nat} {cs xs : List Value} {r r2 : List Value} (hA : Arr w g t (cs ++ r)) (hA2 : Arr w g2 t2 (xs ++ r2)) (hgd : o.guard = none) (d s : Operand) (dT sT : TypeId)
    (ho : o.op = .call { callee := .builtin .copy, args := #[d, s], argTypes := #[dT, sT] }) (elem : TypeId) (k n c c2 : Nat) (hu : P.underlying dT = some (.slice elem)) (hsz : (P.info? elem).map (·.size) = some k)
    (hd : a.eval d = .slice (some ⟨g, 0, none⟩) n c) (hs : a.eval s = .slice (some ⟨g2, 0, none⟩) n c2) (hl : cs.length = n * k) (hl2 : xs.length = n * k) (h1 : ∀ v ∈ xs, v.oneCell' = true)
    (h : ∀ w2, Arr w2 g t (xs ++ r) → InK g w w2 → wpList P ops Q rest (a.put o.dst (goInt n)) w2) : wpList P ops Q (o :: rest) a w := by
  refine wpList_plain hgd fun K hK => ?_; have hmm : Nat.min n n = n := Nat.min_self n; unfold Oper.wp
  have hrun := run_copyK (P := P) w dT sT o.type elem k g 0 n c ⟨g2, 0, none⟩ n c2 xs hu hsz (by rw [hl2, hmm])
    (fun j v hv => by
      rw [add_row, Nat.zero_add]; refine hA2.cell ?_; rw [List.getElem?_append_left (List.getElem?_eq_some_iff.1 hv).1]; exact hv)
    (fun j hj => by
      rw [Nat.zero_add, hA.cell (List.getElem?_eq_getElem (by rw [List.length_append]; omega : j < (cs ++ r).length))]; rfl) (fun j _ => hA.frozen _) h1
  simp only [execOp, ho, resolve, invoke, builtin, Sem.run_bind, Sem.run_pure, Result.andThen_ok, List.map_toArray, List.map_cons, List.map_nil, hd, hs, hrun]; rw [hmm]; refine hK _ _ (h _ ?_ ⟨?_, ?_, ?_, ?_, ?_⟩)
  · have := Arr.setCells_from xs 0 w (cs ++ r) hA (by rw [List.length_append]; omega); rw [List.take_zero, List.nil_append, Nat.zero_add, hl2, ← hl, List.drop_left] at this; exact this
  · exact (below_setCells (Nat.le_refl _) xs w 0).os
  · exact (below_setCells (Nat.le_refl _) xs w 0).tape
  · exact (below_setCells (Nat.le_refl _) xs w 0).output
  · exact (below_setCells (Nat.le_refl _) xs w 0).size
  · exact fun i hi hne => World.heap_setCells_other w g 0 xs hi hne
end
end Go.Proofs.YtjpphldojbfpfaaGreatDoor
