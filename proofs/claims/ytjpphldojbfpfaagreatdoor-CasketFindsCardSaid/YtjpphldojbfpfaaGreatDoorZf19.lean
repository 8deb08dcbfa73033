/- Texts of one proof, laid as one: part 19. No condition. -/
import Derived.Test.YtjpphldojbfpfaaGreatDoorZf05
import Derived.Test.YtjpphldojbfpfaaGreatDoorZf15
import Derived.Test.YtjpphldojbfpfaaGreatDoorZf16
import Derived.Test.YtjpphldojbfpfaaGreatDoorZf18
namespace Go.Proofs.YtjpphldojbfpfaaGreatDoor
open Go.RowKit
structure Dk where
  d : Nat
  gn : Nat
  gf : Nat
  N : Nat
  cn : Nat
  cf : Nat
def dkC (D : Dk) (A : Option Addr) (k c : Nat) : List Value := [.slice (some ⟨D.gn, 0, none⟩) D.N D.cn, .slice (some ⟨D.gf, 0, none⟩) D.N D.cf, .slice A k c, .int .i64 0, .bool false]
structure DiskIs (w : World) (D : Dk) (B : Nat) (L F : List Sec) (A : Option Addr) (k c : Nat) : Prop where
  arr : Arr w D.d 60 (dkC D A k c)
  now : ∃ R, Arr w D.gn 71 (L.flatMap encS ++ R)
  fast : ∃ R, Arr w D.gf 71 (F.flatMap encS ++ R)
  loose : ∃ xs, w.ownsRow B 73 65 (.slice A k c) k xs
  ne : D.gn ≠ D.gf
  lenL : L.length = D.N
  lenF : F.length = D.N
  few : 1 ≤ D.N ∧ D.N ≤ 8192
theorem DiskIs.gr {w w' : World} {D : Dk} {B : Nat} {L F : List Sec} {A : Option Addr} {k c : Nat} (h : DiskIs w D B L F A k c) (hG : Gr w w') : DiskIs w' D B L F A k c := by
  obtain ⟨R1, h1⟩ := h.now; obtain ⟨R2, h2⟩ := h.fast; obtain ⟨xs, h3⟩ := h.loose; exact ⟨h.arr.gr hG, ⟨R1, h1.gr hG⟩, ⟨R2, h2.gr hG⟩, ⟨xs, Gr.own hG h3⟩, h.ne, h.lenL, h.lenF, h.few⟩
theorem DiskIs.ins {S : Nat → Prop} {w w' : World} {D : Dk} {B : Nat} {L F : List Sec} {A : Option Addr} {k c : Nat} (h : DiskIs w D B L F A k c) (hS : InS S w w') (h1 : ¬ S D.d) (h2 : ¬ S D.gn) (h3 : ¬ S D.gf) (h4 : ∀ ad, A = some ad → ¬ S ad.block) : DiskIs w' D B L F A k c := by
  obtain ⟨R1, q1⟩ := h.now; obtain ⟨R2, q2⟩ := h.fast; obtain ⟨xs, q3⟩ := h.loose; exact ⟨hS.arr h.arr h1, ⟨R1, hS.arr q1 h2⟩, ⟨R2, hS.arr q2 h3⟩, ⟨xs, hS.own q3 h4⟩, h.ne, h.lenL, h.lenF, h.few⟩
theorem arr_ne {w : World} {a b : Nat} {s t : TypeId} {xs ys : List Value} (h : Arr w a s xs) (k : Arr w b t ys) (hst : s ≠ t) : a ≠ b := by
  intro e; subst e; unfold Arr at h k; rw [h] at k; injection k with k
  injection k with _ k
  exact hst k
theorem own_arr_ne {w : World} {B b n c m : Nat} {s t : TypeId} {xs ys : List Value} {A : Option Addr} (h : w.ownsRow B s m (.slice A n c) n xs) (k : Arr w b t ys) (hst : s ≠ t) : ∀ ad, A = some ad → ad.block ≠ b := by
  intro ad e q; subst e; rcases h.2 with ⟨e1, _⟩ | ⟨g, cap, cur, e1, _, hg, _⟩
  · cases e1
  · injection e1 with e1
    injection e1 with e1
    subst e1; subst q; unfold Arr at k; rw [k] at hg; injection hg with hg
    injection hg with _ hg
    exact hst hg.symm
theorem run_storeV {P : Program} {ev : Operand → Value} {d : Option Tmp} {t : TypeId} {p : String} {af : Array Edge} {gd : Option (Nat × Bool)} {w : World} {x y : Operand} {T : TypeId} {q : Addr} {u : Value} (hT : (P.info? T).map (·.size) = some 1) (h1 : ev x = .pointer (some q)) (h2 : ev y = u)
    (hk : (∃ A n c, u = .slice A n c) ∨ (∃ k z, u = .int k z) ∨ (∃ b, u = .bool b) ∨ (∃ r, u = .pointer r) ∨ ∃ m, u = .map m) (hc : (w.cell? q).isSome = true) (hf : w.frozen? q = false) : (execOp ev ⟨d, .store T x y, t, p, af, gd⟩).run P w = .ok .skip (w.setCell q u) := by
  obtain ⟨v, hv⟩ := Option.isSome_iff_exists.1 hc; rcases hk with ⟨A, n, c, rfl⟩ | ⟨k, z, rfl⟩ | ⟨b, rfl⟩ | ⟨r, rfl⟩ | ⟨m, rfl⟩ <;>
  · simp only [execOp, h1, h2]; go_simp; simp [run_size1 hT, hv, hf]
theorem wpList_setV {P : Program} {w : World} {g : Nat} {t : TypeId} {cs : List Value} {ops : Array Oper} {rest : List Oper} {op : Oper} {a : Act} {Q : Exit → Act → World → Prop} (h : Arr w g t cs) (hgd : op.guard = none) (ty : TypeId) (x y : Operand) (ho : op.op = .store ty x y)
    (hT : (P.info? ty).map (·.size) = some 1) (i : Nat) (u : Value) (hx : a.eval x = .pointer (some ⟨g, i, none⟩)) (hy : a.eval y = u) (hi : i < cs.length)
    (hk : (∃ A n c, u = .slice A n c) ∨ (∃ k z, u = .int k z) ∨ (∃ b, u = .bool b) ∨ (∃ r, u = .pointer r) ∨ ∃ m, u = .map m)
    (hK : ∀ w2, Arr w2 g t (cs.set i u) → InK g w w2 → wpList P ops Q rest (a.put op.dst undef) w2) : wpList P ops Q (op :: rest) a w := by
  refine wpList_plain hgd fun K hKK => ?_; unfold Oper.wp; obtain ⟨dst, o, tt, ps, af, gd⟩ := op; simp only at ho; subst ho; rw [run_storeV hT hx hy hk (by rw [h.cell (List.getElem?_eq_getElem hi)]; rfl) (h.frozen i)]; exact hKK _ _ (hK _ (h.set i _) (InK.set _ _))
section
variable {w : World} {D : Dk} {B : Nat} {L F : List Sec} {A : Option Addr} {k c : Nat}
set_option maxRecDepth 100000 in
theorem dsize_any (h : DiskIs w D B L F A k c) : Calls Tryz.prog 52 #[.pointer (some ⟨D.d, 0, none⟩)] w fun e w' => e = .returned (.int .i64 (D.N : Int)) ∧ w = w' := by
  have c0 := h.arr.cell (i := 0) (v := .slice (some ⟨D.gn, 0, none⟩) D.N D.cn) rfl; clear h
  go_enter Tryz.func52, Tryz.ntmps52
  go_wp2_with fail
  go_ret
  exact ⟨rfl, rfl⟩
set_option maxRecDepth 100000 in
theorem dmay_any (h : DiskIs w D B L F A k c) {at_ : Nat} (ha : at_ < D.N) : Calls Tryz.prog 102 #[.pointer (some ⟨D.d, 0, none⟩), .int .i64 (at_ : Int)] w fun e w' => e = .returned (.int .i64 0) ∧ w = w' := by
  have c0 := h.arr.cell (i := 0) (v := .slice (some ⟨D.gn, 0, none⟩) D.N D.cn) rfl; have c4 := h.arr.cell (i := 4) (v := .bool false) rfl; have h1 : ¬ (at_ : Int) < 0 := by omega
  have h2 : ¬ (D.N : Int) ≤ (at_ : Int) := by omega
  clear h
  go_enter Tryz.func102, Tryz.ntmps102
  go_wp2_with fail
  go_ret
  exact ⟨rfl, rfl⟩
set_option maxRecDepth 100000 in
theorem dburn_any (h : DiskIs w D B L F A k c) : Calls Tryz.prog 104 #[.pointer (some ⟨D.d, 0, none⟩)] w fun e w' => e = .returned (.bool false) ∧ w = w' := by
  have c3 := h.arr.cell (i := 3) (v := .int .i64 0) rfl; have c4 := h.arr.cell (i := 4) (v := .bool false) rfl; clear h
  go_enter Tryz.func104, Tryz.ntmps104
  go_wp2_with fail
  go_ret
  exact ⟨rfl, rfl⟩
theorem run_sizeS {P : Program} {e : TypeId} {k : Nat} (hi : (P.info? e).map (·.size) = some k) (w : World) : (sizeOf e).run P w = .ok k w := by
  cases hq : P.info? e with
  | none => simp [hq] at hi
  | some i =>
    have hs : i.size = k := by simpa [hq] using hi
    simp [sizeOf, typeInfo, hq, hs]
theorem run_idxZ {P : Program} {ev : Operand → Value} {d : Option Tmp} {t : TypeId} {p : String} {af : Array Edge} {gd : Option (Nat × Bool)} {w : World} {x y : Operand} {T e : TypeId} {sz : Nat} (hT : P.underlying T = some (.slice e)) (hsz : (P.info? e).map (·.size) = some sz) {g n c k : Nat} (h1 : ev x = .slice (some ⟨g, 0, none⟩) n c) (h2 : ev y = .int .i64 (k : Int)) (hk : k < n) :
    (execOp ev ⟨d, .indexAddr T x y, t, p, af, gd⟩).run P w = .ok (.value (.pointer (some ⟨g, k * sz, none⟩))) w := by
  have hki : (k : Int) < (n : Int) := by omega
  have hs := fun w => run_sizeS hsz w; simp only [execOp, h1, h2]; go_simp
set_option maxRecDepth 100000 in
set_option maxHeartbeats 2000000 in
theorem kread_any (h : DiskIs w D B L F A k c) {at_ : Nat} {x : Sec} (hx : L[at_]? = some x) : Calls Tryz.prog 53 #[.pointer (some ⟨D.d, 0, none⟩), .int .i64 (at_ : Int)] w fun e w' => e = .returned (.tuple #[.agg (encS x).toArray, .int .i64 0]) ∧ Gr w w' := by
  have ha : at_ < D.N := by rw [← h.lenL]; exact (List.getElem?_eq_some_iff.1 hx).1
  have hN := h.few.2; have hai : (at_ : Int) < (D.N : Int) := by omega
  have H := Lib.hid h; have HX := Lib.hid hx; clear h hx
  go_enter Tryz.func53, Tryz.ntmps53
  go_upto_region 1 with fail
  have hA4 : Arr (w.alloc (.cells (encS zeroSec).toArray 71)) w.heap.size 71 (encS zeroSec) := Arr.newAt rfl rfl; have hG : Gr w (w.alloc (.cells (encS zeroSec).toArray 71)) := Gr.alloc _ _; change Code.wp _ _ _ _ (w.alloc (.cells (encS zeroSec).toArray 71)); generalize w.alloc (.cells (encS zeroSec).toArray 71) = w1 at hA4 hG ⊢; obtain ⟨g4, hg4⟩ : ∃ g, g = w.heap.size := ⟨_, rfl⟩; rw [← hg4] at hA4; simp only [← hg4]; have hg4w : w.heap.size ≤ g4 := Nat.le_of_eq hg4.symm; clear hg4; have hm := dmay_any (H.out.gr hG) ha; obtain ⟨R, hn⟩ := (H.out.gr hG).now; have hr := sec_at hn HX.out; have c0 := (H.out.gr hG).arr.cell (i := 0) (v := .slice (some ⟨D.gn, 0, none⟩) D.N D.cn) rfl; clear hn
  go_upto_region 4 with (go_at_call 102; refine hm.mono ?_; rintro e w2 ⟨rfl, rfl⟩)
  go_wp2_with first
    | (refine wpList_load_mid rfl _ _ rfl D.gn (at_ * 64) rfl (encS x) _ hr Tryz.underlying71 rfl (infoSec x) ?_)
    | (refine wpList_put hA4 rfl 71 (.tmp 4) (.tmp 20) rfl (encS x) (by kernel_rfl) (by kernel_rfl) (by rw [encS_len, encS_len]) (infoSec x) (encS_one x) ?_; intro w3 hA3 hB3 _)
  refine bodyPost_ret (results_cell_tmp rfl _ _ g4 _ _ _ _ rfl hA3 Tryz.underlying71 rfl (infoSec x)) rfl ?_; exact ⟨rfl, Below.trans hG (hB3.mono (by omega))⟩
theorem there_part {w : World} {g N o n : Nat} (h : w.there g 0 N) (hn : o + n ≤ N) : w.there g o n := fun j hj => by
  have := h (o + j) (by omega)
  rwa [Nat.zero_add] at this
theorem secs_put {w : World} {g at_ : Nat} {t : TypeId} {L : List Sec} {R : List Value} {x : Sec} (h : Arr w g t (L.flatMap encS ++ R)) (ha : at_ < L.length) : Arr (w.setCells g (at_ * 64) (encS x)) g t ((L.set at_ x).flatMap encS ++ R) := arr_set encS_len h ha
theorem ink_cells (w : World) (g o : Nat) (vs : List Value) : InK g w (w.setCells g o vs) :=
  ⟨(below_setCells (Nat.le_refl _) vs w o).os, (below_setCells (Nat.le_refl _) vs w o).tape, (below_setCells (Nat.le_refl _) vs w o).output, (below_setCells (Nat.le_refl _) vs w o).size, fun _ hi hne => World.heap_setCells_other w g o vs hi hne⟩
def looseC (at_ : Nat) (x : Sec) : List Value := .int .i64 (at_ : Int) :: encS x
theorem looseC_len (at_ : Nat) (x : Sec) : (looseC at_ x).length = 65 := by rw [looseC, List.length_cons, encS_len]
theorem looseC_one (at_ : Nat) (x : Sec) : ∀ u ∈ looseC at_ x, u.oneCell' = true := fun u hu => by
  rcases List.mem_cons.1 hu with rfl | h
  · rfl
  · exact encS_one x u h
theorem infoLo_parts : ∃ i z, Tryz.prog.info? 73 = some i ∧ i.zero = some z ∧ i.size = 65 ∧ i.bytes = 72 ∧ z.cells.size = 65 := by
  have h : (Tryz.prog.info? 73).map (fun i => (i.size, i.bytes, i.zero.map (·.cells.size))) = some (65, 72, some 65) := by kernel_rfl
  cases hi : Tryz.prog.info? 73 with
  | none => rw [hi] at h; simp at h
  | some i =>
    rw [hi] at h; simp only [Option.map_some, Option.some.injEq, Prod.mk.injEq, Option.map_eq_some_iff] at h; obtain ⟨h1, h2, z, h3, h4⟩ := h; exact ⟨i, z, rfl, h3, h1, h2, h4⟩
set_option maxRecDepth 100000 in
theorem built_loose (at_ : Nat) (x : Sec) : Tryz.prog.built 73 [(0, .int .i64 (at_ : Int)), (1, .agg (encS x).toArray)] = some (looseC at_ x).toArray := by
  obtain ⟨it, Z, hit, hz, _, _, hs⟩ := infoLo_parts; obtain ⟨fs, hu⟩ : ∃ fs, Tryz.prog.underlying 73 = some (.struct fs) := ⟨_, Tryz.underlying73⟩; have hp : (match Tryz.prog.underlying 73 with | some (.struct fs) => fs.toList.mapM (fun f => (Tryz.prog.info? f.type).map fun i => (f.offset, i.size)) | _ => none) = some [(0, 1), (1, 64)] := by kernel_rfl
  rw [hu] at hp; have hp : fs.toList.mapM (fun f => (Tryz.prog.info? f.type).map fun i => (f.offset, i.size)) = some [(0, 1), (1, 64)] := hp; unfold Program.built; rw [hit, hu]; simp only [hz, hp]; have hl : Z.cells.toList.length = 65 := by simpa using hs
  rw [fill_step _ _ 0 _ [.int .i64 (at_ : Int)] 0 (by rfl) rfl _ (by simp; omega)]; have e1 : Z.cells.toList.take 0 ++ [Value.int .i64 (at_ : Int)] ++ Z.cells.toList.drop (0 + [Value.int .i64 (at_ : Int)].length) = Value.int .i64 (at_ : Int) :: Z.cells.toList.drop 1 := by simp
  rw [e1, fill_step _ _ 1 _ (encS x) 1 (by rw [encS_len]; rfl) rfl _ (by rw [encS_len]; simp; omega)]; simp only [Instr.fill]; congr 1
  rw [encS_len]; have e2 : ((Value.int .i64 (at_ : Int) :: Z.cells.toList.drop 1).toArray.toList.drop (1 + 64)) = [] := by simp; omega
  rw [e2, List.append_nil]; rfl
theorem run_buildLo {ev : Operand → Value} {d : Option Tmp} {t : TypeId} {p : String} {af : Array Edge} {gd : Option (Nat × Bool)} {w : World} {x y : Operand} {at_ : Nat} {s : Sec} (h1 : ev x = .int .i64 (at_ : Int)) (h2 : ev y = .agg (encS s).toArray) :
    (execOp ev ⟨d, .build 73 #[(0, x), (1, y)], t, p, af, gd⟩).run Tryz.prog w = .ok (.value (.agg (looseC at_ s).toArray)) w := by
  have h := run_build (P := Tryz.prog) w 73 #[(0, .int .i64 (at_ : Int)), (1, .agg (encS s).toArray)] _ (built_loose at_ s); simp only [execOp, List.map_toArray, List.map_cons, List.map_nil, h1, h2, Sem.run_bind, h, Result.andThen_ok, Sem.run_pure]
set_option maxRecDepth 100000 in
theorem run_buildLos {ev : Operand → Value} {d : Option Tmp} {t : TypeId} {p : String} {af : Array Edge} {gd : Option (Nat × Bool)} {w : World} {x : Operand} {at_ : Nat} {s : Sec} (h1 : ev x = .agg (looseC at_ s).toArray) :
    (execOp ev ⟨d, .buildSlice 58 1 #[(0, x)], t, p, af, gd⟩).run Tryz.prog w = .ok (.value (.slice (some ⟨w.heap.size, 0, none⟩) 1 1)) (w.alloc (.cells (looseC at_ s).toArray 73)) := by
  obtain ⟨ie, z, hie, hz, q1, _, q3⟩ := infoLo_parts
  have hf : ∀ C : Array Value, C.size = 65 → Instr.fill (fun i => some (i * ie.size, ie.size)) C [(0, .agg (looseC at_ s).toArray)] = some (looseC at_ s).toArray := by
    intro C hC; rw [fill_step (fun i => some (i * ie.size, ie.size)) C 0 (.agg (looseC at_ s).toArray) (looseC at_ s) 0 (by simp [q1, looseC_len]) rfl [] (by simp [looseC_len, hC])]; simp only [Instr.fill]; rw [List.drop_of_length_le (by simp [looseC_len, hC])]; simp
  have h := run_buildSlice (P := Tryz.prog) w 58 73 1 #[(0, .agg (looseC at_ s).toArray)] (looseC at_ s).toArray ie z Tryz.underlying58 hie hz (by rw [q1]; omega) (by rw [q1]; omega) (hf _ (by simp [q1])); simp only [execOp, List.map_toArray, List.map_cons, List.map_nil, h1, Sem.run_bind, h, Result.andThen_ok, Sem.run_pure]
structure NOz (e : TypeId) (size B : Nat) (A : Option Addr) (n c m : Nat) (xs ys : List Value) (w w' : World) : Prop where
  tn : Tn (blkT A e) B w w'
  old : w.ownsRow B e size (.slice A n c) n xs → w'.ownsRow B e size (.slice A n c) n xs
  new : ∀ A2 d, w.ownsRow B e size (.slice A2 (n + m) d) (n + m) (xs ++ ys) → w'.ownsRow B e size (.slice A2 (n + m) d) (n + m) (xs ++ ys)
section
variable {e : TypeId} {size B n c m : Nat} {A : Option Addr} {xs ys : List Value} {a b d : World}
theorem NOz.of_gr (h : Gr a b) : NOz e size B A n c m xs ys a b := ⟨Tn.of_gr h, fun k => Gr.own h k, fun _ _ k => Gr.own h k⟩
theorem NOz.refl (a : World) : NOz e size B A n c m xs ys a a := NOz.of_gr (Gr.refl a)
theorem NOz.trans (h : NOz e size B A n c m xs ys a b) (k : NOz e size B A n c m xs ys b d) : NOz e size B A n c m xs ys a d := ⟨h.tn.trans k.tn, fun q => k.old (h.old q), fun A2 d q => k.new A2 d (h.new A2 d q)⟩
def NewZ (e : TypeId) (size B S n : Nat) (A : Option Addr) (xs : List Value) (v : Value) (w : World) : Prop := ∃ A2 c, v = .slice A2 n c ∧ w.ownsRow B e size (.slice A2 n c) n xs ∧ (A2 = A ∨ ∀ ad, A2 = some ad → S ≤ ad.block)
theorem NewZ.no {S : Nat} {v : Value} {A0 : Option Addr} (h : NewZ e size B S (n + m) A0 (xs ++ ys) v a) (hG : NOz e size B A n c m xs ys a b) : NewZ e size B S (n + m) A0 (xs ++ ys) v b := by
  obtain ⟨A2, c2, e1, h1, h2⟩ := h; exact ⟨A2, c2, e1, hG.new A2 c2 h1, h2⟩
def NewBk (S : Nat) (t : TypeId) (cs : List Value) (v : Value) (w : World) : Prop := ∃ g, v = .slice (some ⟨g, 0, none⟩) 1 1 ∧ S ≤ g ∧ Arr w g t cs
theorem NewBk.no {S : Nat} {t : TypeId} {cs : List Value} {v : Value} (h : NewBk S t cs v a) (hA : ∀ ad, A = some ad → ad.block < S) (hG : NOz e size B A n c m xs ys a b) : NewBk S t cs v b := by
  obtain ⟨g, e1, h1, h2⟩ := h; exact ⟨g, e1, h1, (InS.of_tn hG.tn).arr h2 (fun ⟨ad, q1, q2⟩ => by have := hA ad q1; omega)⟩
end
def WriteQ (D : Dk) (B : Nat) (L F : List Sec) (A : Option Addr) (k : Nat) (at_ : Nat) (x : Sec) (w : World) (e : Ending) (w' : World) : Prop := ∃ A' c', e = .returned (.int .i64 0) ∧ DiskIs w' D B (L.set at_ x) F A' (k + 1) c' ∧ InS (fun i => i = D.d ∨ i = D.gn ∨ ∃ ad, A = some ad ∧ ad.block = i) w w' ∧ (A' = A ∨ ∀ ad, A' = some ad → w.heap.size ≤ ad.block)
set_option maxRecDepth 100000 in
set_option maxHeartbeats 8000000 in
theorem kwrite_any (h : DiskIs w D B L F A k c) {at_ : Nat} (ha : at_ < D.N) (x : Sec) (hB : B ≤ w.heap.size) (hk : k ≤ 100000) : Calls Tryz.prog 56 #[.pointer (some ⟨D.d, 0, none⟩), .int .i64 (at_ : Int), .agg (encS x).toArray] w fun e w' => WriteQ D B L F A k at_ x w e w' := by
  obtain ⟨iD, zD, hiD, hz0, hz1, hz2, hz3⟩ := infoLo_parts; have hN := h.few.2; have hai : (at_ : Int) < (D.N : Int) := by omega
  have H := Lib.hid h; have hd := h.arr.lt; clear h; have hA5 : Arr (w.alloc (.cells (encS x).toArray 71)) w.heap.size 71 (encS x) := Arr.newAt rfl rfl; have hG0 : Gr w (w.alloc (.cells (encS x).toArray 71)) := Gr.alloc _ _
  go_enter Tryz.func56, Tryz.ntmps56
  go_upto_region 1 with fail
  change Code.wp _ _ _ _ (w.alloc (.cells (encS x).toArray 71)); generalize w.alloc (.cells (encS x).toArray 71) = w0 at hA5 hG0 ⊢; obtain ⟨g5, hg5⟩ : ∃ g, g = w.heap.size := ⟨_, rfl⟩; rw [← hg5] at hA5; simp only [← hg5]; have hg5w : w.heap.size ≤ g5 := Nat.le_of_eq hg5.symm; clear hg5; have hm := dmay_any (H.out.gr hG0) ha
  go_upto_region 4 with (go_at_call 102; refine hm.mono ?_; rintro e w2 ⟨rfl, rfl⟩)
  clear hm; have H0 := Lib.hid (H.out.gr hG0); obtain ⟨R, hn⟩ := H0.out.now; have c0 := H0.out.arr.cell (i := 0) (v := .slice (some ⟨D.gn, 0, none⟩) D.N D.cn) rfl; have hr5 : w0.rangeAt g5 0 (encS x) := Arr.range hA5; refine wp_region_cut (by kernel_rfl) [IsV (.pointer (some ⟨D.d, 0, none⟩)), IsV (.pointer (some ⟨D.d, 0, none⟩)), IsV (.pointer (some ⟨D.d, 0, none⟩)), IsV (.slice (some ⟨D.gn, 0, none⟩) D.N D.cn), IsV (.int .i64 ((at_ : Nat) : Int)), IsV (.agg (encS x).toArray), IsV (.pointer (some ⟨D.gn, at_ * 64, none⟩))] 7 (by decide) (by kernel_rfl) (by kernel_rfl) (by kernel_rfl) ?_ ?_ ?_
  · intro φ hφ v w1 w2 h hg; simp only [List.mem_cons, List.not_mem_nil, or_false] at hφ; rcases hφ with rfl | rfl | rfl | rfl | rfl | rfl | rfl
    all_goals first | exact h | exact RdV.gr h hg
  · refine ⟨?_, ?_, ?_, ?_, ?_, ?_, ?_, trivial⟩
    · intro a1 w1 hG hF; exact s_old rfl (wants0 rfl) (.tmp 0) (.inr rfl) (.pointer (some ⟨D.d, 0, none⟩)) (hF.ol 0 (by kernel_rfl)) rfl
    · intro a1 w1 hG hF; obtain ⟨_, e14, rfl⟩ := hF.dp 0 14 (by kernel_rfl); exact s_is rfl (wants0 rfl) _ rfl (run_nil e14)
    · intro a1 w1 hG hF; obtain ⟨_, e15, rfl⟩ := hF.dp 1 15 (by kernel_rfl); exact s_is rfl (wants0 rfl) _ rfl (run_fieldR (o := 0) (k := 0) Tryz.underlying60 rfl rfl (by kernel_rfl) e15)
    · intro a1 w1 hG hF; obtain ⟨_, e16, rfl⟩ := hF.dp 2 16 (by kernel_rfl); exact s_is rfl (wants0 rfl) _ rfl (run_load1B (.inr (.inr (.inr (.inl ⟨_, Tryz.underlying57⟩)))) e16 (Gr.cell ((Gr.drew w0).trans hG) c0))
    · intro a1 w1 hG hF; exact s_old rfl (wants0 rfl) (.tmp 1) (.inr rfl) (.int .i64 ((at_ : Nat) : Int)) (hF.ol 1 (by kernel_rfl)) rfl
    · intro a1 w1 hG hF; have e5 : a1.eval (.tmp 5) = .pointer (some ⟨g5, 0, none⟩) := hF.ol 5 (by kernel_rfl); exact s_wp rfl (wants0 rfl) (wp_load_mid _ _ rfl g5 0 e5 (encS x) _ (((Gr.drew w0).trans hG).range hr5) Tryz.underlying71 rfl (infoSec x) ⟨_, rfl, rfl, Gr.refl _⟩)
    · intro a1 w1 hG hF; obtain ⟨_, e17, rfl⟩ := hF.dp 3 17 (by kernel_rfl); obtain ⟨_, e18, rfl⟩ := hF.dp 4 18 (by kernel_rfl); exact s_is rfl (wants0 rfl) _ rfl (run_idxZ (sz := 64) Tryz.underlying57 (by kernel_rfl) e17 e18 ha)
  · intro vs w1 hG hf; have z19 : vs 5 = .agg (encS x).toArray := hf.2.2.2.2.2.1; have z20 : vs 6 = .pointer (some ⟨D.gn, at_ * 64, none⟩) := hf.2.2.2.2.2.2.1; clear hf; have hGw1 : Gr w0 w1 := (Gr.drew w0).trans hG; simp only [List.take_succ_cons, List.take_zero, List.drop_succ_cons, List.drop_zero, putAll, Nat.zero_add, Nat.reduceAdd, z19, z20]; refine wpList_store_mid rfl 71 (.tmp 20) (.tmp 19) rfl D.gn (at_ * 64) (encS x).toArray (by kernel_rfl) (by kernel_rfl) ?_ (by rw [List.size_toArray]; exact infoSec x) (all_oneCell_toArray (encS_one x)) ?_
    · have hn1 := hn.gr hGw1; have := hn1.there; rw [List.size_toArray, encS_len]; rw [List.length_append, secs_len, H0.out.lenL] at this; exact there_part this (by omega)
    rw [List.toList_toArray]; have hK1 := ink_cells w1 D.gn (at_ * 64) (encS x); have hn2 := secs_put (x := x) (hn.gr hGw1) (by rw [H0.out.lenL]; exact ha); generalize w1.setCells D.gn (at_ * 64) (encS x) = w2 at hK1 hn2 ⊢; have hdn : D.d ≠ D.gn := arr_ne H0.out.arr hn (by decide)
    have hdg5 : g5 ≠ D.gn := by
      have := (H.out.now.choose_spec).lt; omega
    have H2 : Hid (DiskIs w2 D B (L.set at_ x) F A k c) := Lib.hid (by
      obtain ⟨R2, h2⟩ := (H0.out.gr hGw1).fast; obtain ⟨xs, h3⟩ := (H0.out.gr hGw1).loose; refine ⟨hK1.arr (H0.out.gr hGw1).arr hdn, ⟨R, hn2⟩, ⟨R2, hK1.arr h2 (Ne.symm H0.out.ne)⟩, ⟨xs, (InS.of_ink (S := fun i => i = D.gn) hK1 rfl).own h3 (own_arr_ne h3 (hn.gr hGw1) (by decide))⟩, H0.out.ne, by rw [List.length_set]; exact H0.out.lenL, H0.out.lenF, H0.out.few⟩)
    have hA52 : Arr w2 g5 71 (encS x) := hK1.arr (hA5.gr hGw1) hdg5; have hI2 : InS (fun i => i = D.gn) w w2 := (InS.of_gr (hG0.trans hGw1)).trans (InS.of_ink hK1 rfl); clear hn hn2 hK1 hGw1 hA5 hr5 c0 hG0; unfold wpList; go_simp
    go_upto_region 5 with fail
    obtain ⟨xs, hown⟩ := H2.out.loose; have c2 := H2.out.arr.cell (i := 2) (v := .slice A k c) rfl; have hr5 : w2.rangeAt g5 0 (encS x) := Arr.range hA52; have hs2 : B ≤ w2.heap.size := Nat.le_trans hB hI2.size; have hlt : ∀ ad, A = some ad → ad.block < w2.heap.size := own_lt hown; have hA5l : ∀ ad, A = some ad → ad.block ≠ g5 := own_arr_ne hown hA52 (by decide); have hAd : ∀ ad, A = some ad → ad.block ≠ D.d := own_arr_ne hown H2.out.arr (by decide); have hcell : ∀ w1, NOz 73 65 B A k c 1 xs (looseC at_ x) w2.drew w1 → w1.cell? ⟨D.d, 2, none⟩ = some (.slice A k c) := fun w1 h => (InS.of_tn h.tn).cell (Gr.cell (Gr.drew w2) c2) (fun ⟨ad, q1, q2⟩ => hAd ad q1 q2); have hran : ∀ w1, NOz 73 65 B A k c 1 xs (looseC at_ x) w2.drew w1 → w1.rangeAt g5 0 (encS x) := fun w1 h => Arr.range ((InS.of_tn h.tn).arr (hA52.gr (Gr.drew w2)) (fun ⟨ad, q1, q2⟩ => hA5l ad q1 q2)); refine wp_region_cutG (NOz 73 65 B A k c 1 xs (looseC at_ x)) NOz.refl (fun _ _ _ => NOz.trans) (by kernel_rfl) [IsV (.pointer (some ⟨D.d, 0, none⟩)), IsV (.pointer (some ⟨D.d, 0, none⟩)), IsV (.pointer (some ⟨D.d, 0, none⟩)), IsV (.pointer (some ⟨D.d, 2, none⟩)), IsV (.slice A k c), IsV (.int .i64 ((at_ : Nat) : Int)), IsV (.agg (encS x).toArray), IsV (.agg (looseC at_ x).toArray), NewBk w2.heap.size 73 (looseC at_ x), NewZ 73 65 B w2.heap.size (k + 1) A (xs ++ looseC at_ x), IsV (.pointer (some ⟨D.d, 0, none⟩)), IsV (.pointer (some ⟨D.d, 2, none⟩))] 12 (by decide) (by kernel_rfl) (by kernel_rfl) (by kernel_rfl) ?_ ?_ ?_
    · intro φ hφ v w1 w2 h hg; simp only [List.mem_cons, List.not_mem_nil, or_false] at hφ; rcases hφ with rfl | rfl | rfl | rfl | rfl | rfl | rfl | rfl | rfl | rfl | rfl | rfl
      all_goals first | exact h | exact NewZ.no h hg | exact NewBk.no h hlt hg
    · refine ⟨?_, ?_, ?_, ?_, ?_, ?_, ?_, ?_, ?_, ?_, ?_, ?_, trivial⟩
      · intro a1 w1 hG hF; exact gstep (fun _ h => NOz.of_gr h) (s_old rfl (wants0 rfl) (.tmp 0) (.inr rfl) (.pointer (some ⟨D.d, 0, none⟩)) (hF.ol 0 (by kernel_rfl)) rfl)
      · intro a1 w1 hG hF; exact gstep (fun _ h => NOz.of_gr h) (s_old rfl (wants0 rfl) (.tmp 0) (.inr rfl) (.pointer (some ⟨D.d, 0, none⟩)) (hF.ol 0 (by kernel_rfl)) rfl)
      · intro a1 w1 hG hF; obtain ⟨_, e22, rfl⟩ := hF.dp 1 22 (by kernel_rfl); exact gstep (fun _ h => NOz.of_gr h) (s_is rfl (wants0 rfl) _ rfl (run_nil e22))
      · intro a1 w1 hG hF; obtain ⟨_, e23, rfl⟩ := hF.dp 2 23 (by kernel_rfl); exact gstep (fun _ h => NOz.of_gr h) (s_is rfl (wants0 rfl) _ rfl (run_fieldR (o := 2) (k := 0) Tryz.underlying60 rfl rfl (by kernel_rfl) e23))
      · intro a1 w1 hG hF; obtain ⟨_, e24, rfl⟩ := hF.dp 3 24 (by kernel_rfl); exact gstep (fun _ h => NOz.of_gr h) (s_is rfl (wants0 rfl) _ rfl (run_load1B (.inr (.inr (.inr (.inl ⟨_, Tryz.underlying58⟩)))) e24 (hcell w1 hG)))
      · intro a1 w1 hG hF; exact gstep (fun _ h => NOz.of_gr h) (s_old rfl (wants0 rfl) (.tmp 1) (.inr rfl) (.int .i64 ((at_ : Nat) : Int)) (hF.ol 1 (by kernel_rfl)) rfl)
      · intro a1 w1 hG hF; have e5 : a1.eval (.tmp 5) = .pointer (some ⟨g5, 0, none⟩) := hF.ol 5 (by kernel_rfl); exact gstep (fun _ h => NOz.of_gr h) (s_wp rfl (wants0 rfl) (wp_load_mid _ _ rfl g5 0 e5 (encS x) _ (hran w1 hG) Tryz.underlying71 rfl (infoSec x) ⟨_, rfl, rfl, Gr.refl _⟩))
      · intro a1 w1 hG hF; obtain ⟨_, e26, rfl⟩ := hF.dp 5 26 (by kernel_rfl); obtain ⟨_, e27, rfl⟩ := hF.dp 6 27 (by kernel_rfl); exact gstep (fun _ h => NOz.of_gr h) (s_is rfl (wants0 rfl) _ rfl (run_buildLo e26 e27))
      · intro a1 w1 hG hF; obtain ⟨_, e28, rfl⟩ := hF.dp 7 28 (by kernel_rfl); exact gstep (fun _ h => NOz.of_gr h) (s_val rfl (wants0 rfl) _ rfl (.slice (some ⟨w1.heap.size, 0, none⟩) 1 1) (w1.alloc (.cells (looseC at_ x).toArray 73)) (run_buildLos e28) ⟨_, rfl, Nat.le_trans (Gr.drew w2).size hG.tn.size, Arr.newAt rfl rfl⟩ (Gr.alloc _ _))
      · intro a1 w1 hG hF; obtain ⟨_, e25, rfl⟩ := hF.dp 4 25 (by kernel_rfl); obtain ⟨x29, e29, f29⟩ := hF.dp 8 29 (by kernel_rfl); obtain ⟨gX, rfl, hgX, hX⟩ := f29; have ho1 := hG.old (Gr.own (Gr.drew w2) hown); obtain ⟨A', c', w', hr, h2, hT, hold, hnew, hl⟩ := run_append_keepL (P := Tryz.prog) (w := w1) B 58 58 73 iD zD 65 72 Tryz.underlying58 hiD hz0 hz1 hz2 hz3 (by omega) A k c xs ho1 ⟨gX, 0, none⟩ 1 1 (looseC at_ x) (looseC_len at_ x) (fun j u hj => by rw [add_row, Nat.zero_add]; exact hX.cell hj) (looseC_one at_ x) (by unfold maxLen; omega) (by omega) (Nat.le_trans hs2 hG.tn.size); exact g_valW rfl rfl (.slice A' (k + 1) c') w' (by simp only [execOp, resolve, invoke, builtin, List.map_toArray, List.map_cons, List.map_nil, e25, e29, Sem.run_bind, Sem.run_pure, hr, Result.andThen_ok]) ⟨A', c', rfl, h2, hl.imp id fun h ad e => Nat.le_trans hG.tn.size (h ad e)⟩ ⟨hT, fun _ => hold, fun A2 d h => hnew A2 d h⟩
      · intro a1 w1 hG hF; obtain ⟨_, e21, rfl⟩ := hF.dp 0 21 (by kernel_rfl); exact gstep (fun _ h => NOz.of_gr h) (s_is rfl (wants0 rfl) _ rfl (run_nil e21))
      · intro a1 w1 hG hF; obtain ⟨_, e31, rfl⟩ := hF.dp 10 31 (by kernel_rfl); exact gstep (fun _ h => NOz.of_gr h) (s_is rfl (wants0 rfl) _ rfl (run_fieldR (o := 2) (k := 0) Tryz.underlying60 rfl rfl (by kernel_rfl) e31))
    · intro vs w1 hG hf; have y30 : (NewZ 73 65 B w2.heap.size (k + 1) A (xs ++ looseC at_ x)) (vs 9) w1 := hf.2.2.2.2.2.2.2.2.2.1; have z32 : vs 11 = .pointer (some ⟨D.d, 2, none⟩) := hf.2.2.2.2.2.2.2.2.2.2.2.1; clear hf; simp only [List.take_succ_cons, List.take_zero, List.drop_succ_cons, List.drop_zero, putAll, Nat.zero_add, Nat.reduceAdd, z32]; have hT : InS (fun i => ∃ ad, A = some ad ∧ ad.block = i) w2 w1 := (InS.of_gr (Gr.drew w2)).trans (InS.of_tn hG.tn); obtain ⟨A8, c8, hy8, ho8, hl8⟩ := y30; have hA8 := hT.arr H2.out.arr (fun ⟨ad, q1, q2⟩ => hAd ad q1 q2); simp only [hy8]; clear hy8 z32 hG; refine wpList_setSl (A := A8) (n := k + 1) (c := c8) hA8 rfl 58 (.tmp 32) (.tmp 30) rfl (by kernel_rfl) 2 (by kernel_rfl) (by kernel_rfl) (by simp [dkC]) ?_; intro w9 hw9 hA9; have hA9' : Arr w9 D.d 60 (dkC D A8 (k + 1) c8) := hA9; have hK9 : InK D.d w1 w9 := by rw [hw9]; exact InK.set _ _
      have hl8w : ∀ ad, A8 = some ad → ad.block ≠ D.d := own_arr_ne ho8 hA8 (by decide)
      have HQ : Hid (DiskIs w9 D B (L.set at_ x) F A8 (k + 1) c8 ∧ InS (fun i => i = D.d ∨ i = D.gn ∨ ∃ ad, A = some ad ∧ ad.block = i) w w9 ∧ (A8 = A ∨ ∀ ad, A8 = some ad → w.heap.size ≤ ad.block)) := Lib.hid (by
        obtain ⟨R1, q1⟩ := H2.out.now; obtain ⟨R2, q2⟩ := H2.out.fast; refine ⟨⟨hA9', ⟨R1, hK9.arr (hT.arr q1 (fun ⟨ad, p1, p2⟩ => own_arr_ne hown q1 (by decide) ad p1 p2)) (Ne.symm (arr_ne H2.out.arr q1 (by decide)))⟩, ⟨R2, hK9.arr (hT.arr q2 (fun ⟨ad, p1, p2⟩ => own_arr_ne hown q2 (by decide) ad p1 p2)) (Ne.symm (arr_ne H2.out.arr q2 (by decide)))⟩, ⟨_, (InS.of_ink (S := fun i => i = D.d) hK9 rfl).own ho8 hl8w⟩, H2.out.ne, H2.out.lenL, H2.out.lenF, H2.out.few⟩, ?_, ?_⟩
        · exact ((hI2.wide fun i h => .inr (.inl h)).trans (hT.wide fun i h => .inr (.inr h))).trans (InS.of_ink hK9 (.inl rfl))
        · exact hl8.imp id fun h ad e => Nat.le_trans hI2.size (h ad e))
      have HB := Lib.hid (dburn_any HQ.out.1); clear hw9 hA9 hA9' hK9 hA8 hT ho8 hl8 hl8w hown c2 hr5 hA52 hI2 hcell hran; unfold wpList; go_simp
      go_wp2_with (go_at_call 104; refine HB.out.mono ?_; rintro e w10 ⟨rfl, rfl⟩)
      go_ret
      exact ⟨A8, c8, rfl, HQ.out⟩
def SyncQ (D : Dk) (L : List Sec) (w : World) (e : Ending) (w' : World) : Prop := e = .returned (.int .i64 0) ∧ DiskIs w' D 0 L L none 0 0 ∧ InS (fun i => i = D.d ∨ i = D.gf) w w'
set_option maxRecDepth 100000 in
set_option maxHeartbeats 8000000 in
theorem dsync_any (h : DiskIs w D B L F A k c) : Calls Tryz.prog 58 #[.pointer (some ⟨D.d, 0, none⟩)] w fun e w' => SyncQ D L w e w' := by
  have hN := h.few.1; have H := Lib.hid h; have hm := dmay_any h (at_ := 0) (by omega); have hb := dburn_any h; obtain ⟨R1, q1⟩ := h.now; obtain ⟨R2, q2⟩ := h.fast; have c0 := h.arr.cell (i := 0) (v := .slice (some ⟨D.gn, 0, none⟩) D.N D.cn) rfl; have c1 := h.arr.cell (i := 1) (v := .slice (some ⟨D.gf, 0, none⟩) D.N D.cf) rfl; clear h
  go_enter Tryz.func58, Tryz.ntmps58
  go_upto_region 6 with first
    | (go_at_call 102; refine hm.mono ?_; rintro e w2 ⟨rfl, rfl⟩)
    | (go_at_call 104; refine hb.mono ?_; rintro e w2 ⟨rfl, rfl⟩)
  clear hm hb; refine wp_region_cut (by kernel_rfl) [IsV (.pointer (some ⟨D.d, 0, none⟩)), IsV (.pointer (some ⟨D.d, 0, none⟩)), IsV (.pointer (some ⟨D.d, 1, none⟩)), IsV (.slice (some ⟨D.gf, 0, none⟩) D.N D.cf), IsV (.pointer (some ⟨D.d, 0, none⟩)), IsV (.pointer (some ⟨D.d, 0, none⟩)), IsV (.pointer (some ⟨D.d, 0, none⟩)), IsV (.slice (some ⟨D.gn, 0, none⟩) D.N D.cn)] 8 (by decide) (by kernel_rfl) (by kernel_rfl) (by kernel_rfl) ?_ ?_ ?_
  · intro φ hφ v w1 w2 h hg; simp only [List.mem_cons, List.not_mem_nil, or_false] at hφ; rcases hφ with rfl | rfl | rfl | rfl | rfl | rfl | rfl | rfl
    all_goals first | exact h | exact RdV.gr h hg
  · refine ⟨?_, ?_, ?_, ?_, ?_, ?_, ?_, ?_, trivial⟩
    · intro a1 w1 hG hF; exact s_old rfl (wants0 rfl) (.tmp 0) (.inr rfl) (.pointer (some ⟨D.d, 0, none⟩)) (hF.ol 0 (by kernel_rfl)) rfl
    · intro a1 w1 hG hF; obtain ⟨_, e11, rfl⟩ := hF.dp 0 11 (by kernel_rfl); exact s_is rfl (wants0 rfl) _ rfl (run_nil e11)
    · intro a1 w1 hG hF; obtain ⟨_, e12, rfl⟩ := hF.dp 1 12 (by kernel_rfl); exact s_is rfl (wants0 rfl) _ rfl (run_fieldR (o := 1) (k := 0) Tryz.underlying60 rfl rfl (by kernel_rfl) e12)
    · intro a1 w1 hG hF; obtain ⟨_, e13, rfl⟩ := hF.dp 2 13 (by kernel_rfl); exact s_is rfl (wants0 rfl) _ rfl (run_load1B (.inr (.inr (.inr (.inl ⟨_, Tryz.underlying57⟩)))) e13 (Gr.cell ((Gr.drew w).trans hG) c1))
    · intro a1 w1 hG hF; exact s_old rfl (wants0 rfl) (.tmp 0) (.inr rfl) (.pointer (some ⟨D.d, 0, none⟩)) (hF.ol 0 (by kernel_rfl)) rfl
    · intro a1 w1 hG hF; obtain ⟨_, e15, rfl⟩ := hF.dp 4 15 (by kernel_rfl); exact s_is rfl (wants0 rfl) _ rfl (run_nil e15)
    · intro a1 w1 hG hF; obtain ⟨_, e16, rfl⟩ := hF.dp 5 16 (by kernel_rfl); exact s_is rfl (wants0 rfl) _ rfl (run_fieldR (o := 0) (k := 0) Tryz.underlying60 rfl rfl (by kernel_rfl) e16)
    · intro a1 w1 hG hF; obtain ⟨_, e17, rfl⟩ := hF.dp 6 17 (by kernel_rfl); exact s_is rfl (wants0 rfl) _ rfl (run_load1B (.inr (.inr (.inr (.inl ⟨_, Tryz.underlying57⟩)))) e17 (Gr.cell ((Gr.drew w).trans hG) c0))
  · intro vs w1 hG hf; have z14 : vs 3 = .slice (some ⟨D.gf, 0, none⟩) D.N D.cf := hf.2.2.2.1; have z18 : vs 7 = .slice (some ⟨D.gn, 0, none⟩) D.N D.cn := hf.2.2.2.2.2.2.2.1; clear hf; simp only [List.take_succ_cons, List.take_zero, List.drop_succ_cons, List.drop_zero, putAll, Nat.zero_add, Nat.reduceAdd, z14, z18]; have hG1 : Gr w w1 := (Gr.drew w).trans hG; have hlF : (F.flatMap encS).length = D.N * 64 := by rw [secs_len, H.out.lenF]
    have hlL : (L.flatMap encS).length = D.N * 64 := by rw [secs_len, H.out.lenL]
    refine wpList_copyK (q2.gr hG1) (q1.gr hG1) rfl (.tmp 14) (.tmp 18) 57 57 rfl 71 64 D.N D.cf D.cn Tryz.underlying57 (by kernel_rfl) (by kernel_rfl) (by kernel_rfl) hlF hlL (secs_one L) ?_; intro w2 hF2 hK2; have hdA := hK2.arr (H.out.arr.gr hG1) (arr_ne H.out.arr q2 (by decide)); have hn2 := hK2.arr (q1.gr hG1) H.out.ne; have hI2 : InS (fun i => i = D.d ∨ i = D.gf) w w2 := (InS.of_gr hG1).trans (InS.of_ink hK2 (.inr rfl)); clear hK2 hG1 hG q1 q2 c0 c1 hlF hlL; unfold wpList; go_simp
    go_upto_region 7 with fail
    go_upto_region 8 with (refine wpList_setSl (A := none) (n := 0) (c := 0) hdA rfl 58 (.tmp 22) (.const (.slice none 0 0)) rfl (by kernel_rfl) 2 rfl rfl (by simp [dkC]) ?_; intro w3 hw3 hA3)
    have hK3 : InK D.d w2 w3 := by rw [hw3]; exact InK.set _ _
    have hA3' : Arr w3 D.d 60 (dkC D none 0 0) := hA3; have HQ : Hid (SyncQ D L w (.returned (.int .i64 0)) w3) := Lib.hid ⟨rfl, ⟨hA3', ⟨R1, hK3.arr hn2 (Ne.symm (arr_ne hdA hn2 (by decide)))⟩, ⟨R2, hK3.arr hF2 (Ne.symm (arr_ne hdA hF2 (by decide)))⟩, ⟨[], rfl, .inl ⟨rfl, rfl⟩⟩, H.out.ne, H.out.lenL, H.out.lenL, H.out.few⟩, hI2.trans (InS.of_ink hK3 (.inl rfl))⟩; clear hw3 hA3 hA3' hK3 hF2 hn2 hdA hI2; go_wp2_with fail
    go_ret
    exact HQ.out
set_option maxRecDepth 100000 in
set_option maxHeartbeats 2000000 in
theorem cloneSec_any {g n c : Nat} {L : List Sec} {R : List Value} (h : Arr w g 71 (L.flatMap encS ++ R)) (hl : L.length = n) (hn : 1 ≤ n ∧ n ≤ 8192) :
    Calls Tryz.prog 15 #[.slice (some ⟨g, 0, none⟩) n c] w fun e w' => ∃ A' c', e = .returned (.slice A' n c') ∧ w'.ownsRow w.heap.size 71 64 (.slice A' n c') n (L.flatMap encS) ∧ Gr w w' := by
  obtain ⟨iD, zD, hiD, hz0, hz1, hz2, hz3, _⟩ := infoSec_parts
  have hc : ∀ j u, (L.flatMap encS)[j]? = some u → ∃ ad, some (⟨g, 0, none⟩ : Addr) = some ad ∧ (w.alloc (.cells #[] 71)).cell? (ad.add j) = some u := fun j u hu => ⟨_, rfl, by
    rw [add_row, Nat.zero_add]; refine (h.gr (Gr.alloc _ _)).cell ?_; rw [List.getElem?_append_left (List.getElem?_eq_some_iff.1 hu).1]; exact hu⟩
  have hlen : (L.flatMap encS).length = n * 64 := by rw [secs_len, hl]
  have hoe := own_emptyE (w := w) 71 64 (Nat.le_refl _); have he : ∀ w : World, (binOp .eql 57 (.slice (some ⟨g, 0, none⟩) n c) (.slice none 0 0)).run Tryz.prog w = .ok (.bool false) w := fun _ => rfl; have hn1 := hn.1; have hn2 := hn.2; clear h hl hn
  go_enter Tryz.func15, Tryz.ntmps15
  go_wp2_with (at_builtin; go_must (refine wpList_clone rfl (.tmp 5) (.tmp 6) 57 rfl w.heap.size 71 iD zD 64 64 Tryz.underlying57 hiD hz0 hz1 hz2 hz3 (by omega) rfl hoe (some ⟨g, 0, none⟩) n c _ rfl hlen hc (secs_one L) (by unfold maxLen; omega) (by omega) (Gr.alloc w _).size ?_; intro A3 c3 w3 ho3 hG3))
  go_ret
  exact ⟨A3, c3, rfl, ho3, (Gr.alloc w _).trans hG3⟩
def CrashQ (D : Dk) (L : List Sec) (w : World) (e : Ending) (w' : World) : Prop := ∃ D' : Dk, e = .returned (.tuple #[]) ∧ D'.d = D.d ∧ D'.gf = D.gf ∧ D'.N = D.N ∧ w.heap.size ≤ D'.gn ∧ DiskIs w' D' 0 L L none 0 0 ∧ InS (fun i => i = D.d) w w'
set_option maxRecDepth 100000 in
set_option maxHeartbeats 8000000 in
theorem dcrash_any (h : DiskIs w D B L L none 0 0) (S : Value) : Calls Tryz.prog 7 #[.pointer (some ⟨D.d, 0, none⟩), S] w fun e w' => CrashQ D L w e w' := by
  have H := Lib.hid h; obtain ⟨R2, q2⟩ := h.fast; have c1 := h.arr.cell (i := 1) (v := .slice (some ⟨D.gf, 0, none⟩) D.N D.cf) rfl; have c2 := h.arr.cell (i := 2) (v := .slice none 0 0) rfl; have HC := Lib.hid (cloneSec_any (c := D.cf) q2 h.lenF h.few); clear h
  go_enter Tryz.func7, Tryz.ntmps7
  go_wp2_with fail
  go_simp
  go_loopw [13] (fun i wr => i = .int .i64 0 ∧ wr = w) (fun _ _ => 0)
  case atStart => exact ⟨rfl, rfl⟩
  case round =>
    obtain ⟨rfl, rfl⟩ := hrel
    go_upto_region 7 with fail
    obtain ⟨w2, hw2⟩ : ∃ v, v = wr := ⟨_, rfl⟩; subst hw2
    go_upto_region 8 with first
      | (go_at_call 15; refine HC.out.mono ?_; rintro e w3 ⟨A3, c3, rfl, ho3, hG3⟩; have hA3 := H.out.arr.gr hG3)
      | (refine wpList_setV hA3 rfl 57 (.tmp 45) (.tmp 43) rfl (by kernel_rfl) 0 (.slice A3 D.N c3) rfl rfl (by simp [dkC]) (.inl ⟨_, _, _, rfl⟩) ?_; intro w4 hA4 hK4)
    have HQ : Hid (∀ w7, Arr w7 D.d 60 ((((dkC D none 0 0).set 0 (.slice A3 D.N c3)).set 2 (.slice none 0 0)).set 4 (.bool false) |>.set 3 (.int .i64 0)) → InK D.d w4 w7 → CrashQ D L w2 (.returned (.tuple #[])) w7) := Lib.hid (by
      intro w7 hA7 hK7; have hNp : 1 ≤ D.N := H.out.few.1
      obtain ⟨g, rfl⟩ : ∃ g, A3 = some ⟨g, 0, none⟩ := by
        rcases ho3.2 with ⟨_, e⟩ | ⟨g, cap, cur, e, _⟩
        · omega
        · injection e with e
          exact ⟨g, e⟩
      obtain ⟨R3, h3, _, hg3⟩ := own_arrK ho3; have hKK := hK4.trans hK7; have hdg : D.d ≠ g := by have := H.out.arr.lt; omega
      refine ⟨⟨D.d, g, D.gf, D.N, c3, D.cf⟩, rfl, rfl, rfl, rfl, hg3, ⟨hA7, ⟨R3, hKK.arr h3 (Ne.symm hdg)⟩, ⟨R2, hKK.arr (q2.gr hG3) (Ne.symm (arr_ne H.out.arr q2 (by decide)))⟩, ⟨[], rfl, .inl ⟨rfl, rfl⟩⟩, ?_, H.out.lenL, H.out.lenL, H.out.few⟩, (InS.of_gr hG3).trans (InS.of_ink hKK rfl)⟩; have := q2.lt; show g ≠ D.gf; omega)
    clear hK4 hA3 ho3 hG3 HC c1 c2 q2
    go_wp2_with first
      | (refine wpList_setV hA4 rfl 58 (.tmp 50) (.const (.slice none 0 0)) rfl (by kernel_rfl) 2 (.slice none 0 0) rfl rfl (by simp [dkC]) (.inl ⟨_, _, _, rfl⟩) ?_; intro w5 hA5 hK5)
      | (refine wpList_setV hA5 rfl 4 (.tmp 52) (.const (.bool false)) rfl (by kernel_rfl) 4 (.bool false) rfl rfl (by simp [dkC]) (.inr (.inr (.inl ⟨_, rfl⟩))) ?_; intro w6 hA6 hK6)
      | (refine wpList_setV hA6 rfl 3 (.tmp 54) (.const (.int .i64 0)) rfl (by kernel_rfl) 3 (.int .i64 0) rfl rfl (by simp [dkC]) (.inr (.inl ⟨_, _, rfl⟩)) ?_; intro w7 hA7 hK7)
    refine bodyPost_end (results_none rfl _ _ _) rfl ?_; exact HQ.out w7 hA7 ((hK5.trans hK6).trans hK7)
end
def SecV (B n : Nat) (v : Value) (w : World) : Prop := ∃ g, v = .slice (some ⟨g, 0, none⟩) n n ∧ B ≤ g ∧ Arr w g 71 ((List.replicate n zeroSec).flatMap encS)
theorem SecV.gr {B n : Nat} {v : Value} {w w' : World} (h : SecV B n v w) (hG : Gr w w') : SecV B n v w' := by
  obtain ⟨g, e, h1, h2⟩ := h; exact ⟨g, e, h1, h2.gr hG⟩
set_option maxRecDepth 100000 in
theorem make_secs (w : World) (n : Nat) (hn : n ≤ 8192) : ∃ w', (Instr.makeSlice 57 (.int .i64 (n : Int)) (.int .i64 (n : Int))).run Tryz.prog w = .ok (.slice (some ⟨w.heap.size, 0, none⟩) n n) w' ∧ Arr w' w.heap.size 71 ((List.replicate n zeroSec).flatMap encS) ∧ Gr w w' := by
  obtain ⟨i, z, hi, hz, h1, h2, h3, h4⟩ := infoSec_parts; obtain ⟨w', hr, ho, hg⟩ := run_make_full (P := Tryz.prog) w w.heap.size 57 71 i z 64 Tryz.underlying57 hi hz h1 .i64 .i64 n (by rw [h2]; omega) (by unfold maxLen; omega) (Nat.le_refl _); rw [madeSec h4] at ho; refine ⟨w', hr, ?_, (Below.refl _ _).grown hg (Nat.le_refl _) (fun k hk => by cases hk)⟩; rcases ho.2 with ⟨e, _⟩ | ⟨g, cap, cur, e, _, hgg, _, _, hs, ht⟩
  · cases e
  · injection e with e1 _ e2
    injection e1 with e1
    injection e1 with e1
    subst e1 e2; unfold Arr; rw [hgg, ← ht, List.take_of_length_le (by rw [Array.length_toList, hs]; omega), Array.toArray_toList]
theorem run_buildDk {ev : Operand → Value} {d : Option Tmp} {t : TypeId} {p : String} {af : Array Edge} {gd : Option (Nat × Bool)} {w : World} {x y : Operand} {a b N : Nat} (h1 : ev x = .slice (some ⟨a, 0, none⟩) N N) (h2 : ev y = .slice (some ⟨b, 0, none⟩) N N) :
    (execOp ev ⟨d, .build 60 #[(0, x), (1, y)], t, p, af, gd⟩).run Tryz.prog w = .ok (.value (.agg (dkC ⟨0, a, b, N, N, N⟩ none 0 0).toArray)) w := by
  have h := run_build (P := Tryz.prog) w 60 #[(0, .slice (some ⟨a, 0, none⟩) N N), (1, .slice (some ⟨b, 0, none⟩) N N)] (dkC ⟨0, a, b, N, N, N⟩ none 0 0).toArray (by kernel_rfl); simp only [execOp, List.map_toArray, List.map_cons, List.map_nil, h1, h2, Sem.run_bind, h, Result.andThen_ok, Sem.run_pure]
def DNewQ (n : Nat) (w : World) (e : Ending) (w' : World) : Prop := ∃ D : Dk, e = .returned (.tuple #[.pointer (some ⟨D.d, 0, none⟩), .int .i64 0]) ∧ D.N = n ∧ w.heap.size ≤ D.d ∧ w.heap.size ≤ D.gn ∧ w.heap.size ≤ D.gf ∧ DiskIs w' D 0 (List.replicate n zeroSec) (List.replicate n zeroSec) none 0 0 ∧ Gr w w'
set_option maxRecDepth 100000 in
set_option maxHeartbeats 8000000 in
theorem dnew_any (n : Nat) (hn : 1 ≤ n ∧ n ≤ 8192) (w : World) : Calls Tryz.prog 4 #[.int .i64 (n : Int)] w fun e w' => DNewQ n w e w' := by
  obtain ⟨hn1, hn2⟩ := hn; have h1 : ¬ (n : Int) < 1 := by omega
  have h2 : ¬ (8192 : Int) < (n : Int) := by omega
  go_enter Tryz.func4, Tryz.ntmps4
  go_upto_region 3 with fail
  refine wp_region_cutD (by kernel_rfl) [IsV (.int .i64 (n : Int)), SecV w.heap.size n, IsV (.int .i64 (n : Int)), SecV w.heap.size n] 4 (by decide) (by kernel_rfl) (by kernel_rfl) [1, 3] (by kernel_rfl) ?_ ?_ ?_ ?_
  · intro φ hφ v w1 w2 h hg; simp only [List.mem_cons, List.not_mem_nil, or_false] at hφ; rcases hφ with rfl | rfl | rfl | rfl
    all_goals first | exact h | exact SecV.gr h hg
  · have hmk : ∀ w1, Gr w.drew w1 → ∃ w2, (Instr.makeSlice 57 (.int .i64 (n : Int)) (.int .i64 (n : Int))).run Tryz.prog w1 = .ok (.slice (some ⟨w1.heap.size, 0, none⟩) n n) w2 ∧ SecV w.heap.size n (.slice (some ⟨w1.heap.size, 0, none⟩) n n) w2 ∧ Gr w1 w2 := fun w1 hG => by
      obtain ⟨w2, hr, hA, hg⟩ := make_secs w1 n hn2; exact ⟨w2, hr, ⟨_, rfl, ((Gr.drew w).trans hG).size, hA⟩, hg⟩
    refine ⟨?_, ?_, ?_, ?_, trivial⟩
    · intro a1 w1 hG hF; exact s_old rfl (wants0 rfl) (.tmp 0) (.inr rfl) (.int .i64 (n : Int)) (hF.ol 0 (by kernel_rfl)) rfl
    · intro a1 w1 hG hF; obtain ⟨_, e10, rfl⟩ := hF.dp 0 10 (by kernel_rfl); obtain ⟨w2, hr, hφ, hg⟩ := hmk w1 hG; exact s_val rfl (wants0 rfl) _ rfl _ w2 (by simp only [execOp, e10, Sem.run_bind, hr, Result.andThen_ok, Sem.run_pure]) hφ hg
    · intro a1 w1 hG hF; exact s_old rfl (wants0 rfl) (.tmp 0) (.inr rfl) (.int .i64 (n : Int)) (hF.ol 0 (by kernel_rfl)) rfl
    · intro a1 w1 hG hF; obtain ⟨_, e12, rfl⟩ := hF.dp 2 12 (by kernel_rfl); obtain ⟨w2, hr, hφ, hg⟩ := hmk w1 hG; exact s_val rfl (wants0 rfl) _ rfl _ w2 (by simp only [execOp, e12, Sem.run_bind, hr, Result.andThen_ok, Sem.run_pure]) hφ hg
  · intro i1 o1 hi1 ho1 hz1 a1 w1 hG hF
    have key : ∀ (o : Oper) (x y : Operand), a1.eval x = .int .i64 (n : Int) → a1.eval y = .int .i64 (n : Int) → ∀ L : List (Value → World → Prop), L.getD i1 AnyV = SecV w.heap.size n → (∀ j ∈ [1, 3], L.getD j AnyV = SecV w.heap.size n) → ∀ (ops : Array Oper) Q, ops[i1]? = some o → (ops[i1]?).map (fun o => (o.op, o.guard)) = some (.makeSlice 57 x y, none) →
        wpOp Tryz.prog ops Q i1 (fun a' w' => ∃ v, a' = a1.put o.dst v ∧ (L.getD i1 AnyV) v w' ∧ Gr w1 w' ∧ ∀ j ∈ [1, 3], ∀ u, (L.getD j AnyV) u w1 → v ≠ u) a1 w1 := fun o x y hx hy L hL1 hL2 ops Q hio hop => by
      rw [hio] at hop; simp only [Option.map_some, Option.some.injEq, Prod.mk.injEq] at hop; obtain ⟨ho, hgd⟩ := hop; obtain ⟨w2, hr, hA, hg⟩ := make_secs w1 n hn2; have hw : Region.wanted o (yielded ops a1.tmps) = true := by simp [Region.wanted, hgd]
      have hr2 : (execOp a1.eval o).run Tryz.prog w1 = .ok (.value (.slice (some ⟨w1.heap.size, 0, none⟩) n n)) w2 := by simp only [execOp, ho, hx, hy, Sem.run_bind, hr, Result.andThen_ok, Sem.run_pure]
      unfold wpOp; simp only [hio, hw, if_true, Oper.wp, hr2, Oper.upon]; refine .inl ⟨_, rfl, ?_, hg, fun j hj u hu h => ?_⟩
      · rw [hL1]; exact ⟨_, rfl, ((Gr.drew w).trans hG).size, hA⟩
      · rw [hL2 j hj] at hu; obtain ⟨g, rfl, _, hA2⟩ := hu; have hlt := hA2.lt; injection h with h
        injection h with h
        injection h with h
        omega
    simp only [List.mem_cons, List.not_mem_nil, or_false] at hi1
    have hL2 : ∀ j ∈ [1, 3], [IsV (.int .i64 (n : Int)), SecV w.heap.size n, IsV (.int .i64 (n : Int)), SecV w.heap.size n].getD j AnyV = SecV w.heap.size n := by
      intro j hj; simp only [List.mem_cons, List.not_mem_nil, or_false] at hj; rcases hj with rfl | rfl <;> rfl
    rcases hi1 with rfl | rfl
    · have ho2 := ho1; obtain rfl := Option.some.inj (show some _ = some o1 from ho1); obtain ⟨_, e10, rfl⟩ := hF.dp 0 10 (by kernel_rfl); exact key _ (.tmp 10) (.tmp 10) e10 e10 _ rfl hL2 _ _ rfl rfl
    · have ho2 := ho1; obtain rfl := Option.some.inj (show some _ = some o1 from ho1); obtain ⟨_, e12, rfl⟩ := hF.dp 2 12 (by kernel_rfl); exact key _ (.tmp 12) (.tmp 12) e12 e12 _ rfl hL2 _ _ rfl rfl
  · intro vs w1 hds hG hf; obtain ⟨ga, ea, hga, hAa⟩ : SecV w.heap.size n (vs 1) w1 := hf.2.1; obtain ⟨gb, eb, hgb, hAb⟩ : SecV w.heap.size n (vs 3) w1 := hf.2.2.2.1
    have hne : ga ≠ gb := by
      intro e; refine hds 1 3 _ _ 11 13 (by simp) (by simp) (by decide) (by decide) (by decide) rfl rfl rfl rfl ?_; rw [ea, eb, e]
    clear hf hds; simp only [List.take_succ_cons, List.take_zero, List.drop_succ_cons, List.drop_zero, putAll, Nat.zero_add, Nat.reduceAdd, ea, eb]; refine wpList_valW rfl _ w1 (run_buildDk (x := .tmp 11) (y := .tmp 13) (a := ga) (b := gb) (N := n) (by kernel_rfl) (by kernel_rfl)) ?_; have hG1 : Gr w w1 := (Gr.drew w).trans hG; have hA2 : Arr (w1.alloc (.cells (dkC ⟨0, ga, gb, n, n, n⟩ none 0 0).toArray 60)) w1.heap.size 60 (dkC ⟨0, ga, gb, n, n, n⟩ none 0 0) := Arr.newAt rfl rfl
    have HQ : Hid (DNewQ n w (.returned (.tuple #[.pointer (some ⟨w1.heap.size, 0, none⟩), .int .i64 0])) (w1.alloc (.cells (dkC ⟨0, ga, gb, n, n, n⟩ none 0 0).toArray 60))) := Lib.hid (by
      refine ⟨⟨w1.heap.size, ga, gb, n, n, n⟩, rfl, rfl, hG1.size, hga, hgb, ⟨hA2, ⟨[], by rw [List.append_nil]; exact hAa.gr (Gr.alloc _ _)⟩, ⟨[], by rw [List.append_nil]; exact hAb.gr (Gr.alloc _ _)⟩, ⟨[], rfl, .inl ⟨rfl, rfl⟩⟩, hne, List.length_replicate .., List.length_replicate .., hn1, hn2⟩, hG1.trans (Gr.alloc _ _)⟩)
    clear hG1 hA2 hAa hAb hG; refine wpList_valW rfl (.pointer (some ⟨w1.heap.size, 0, none⟩)) (w1.alloc (.cells (dkC ⟨0, ga, gb, n, n, n⟩ none 0 0).toArray 60)) (by simp only [execOp]; go_simp) ?_; generalize w1.alloc (.cells (dkC ⟨0, ga, gb, n, n, n⟩ none 0 0).toArray 60) = w9 at HQ ⊢; refine wpList_valW rfl (.pointer (some ⟨w1.heap.size, 0, none⟩)) w9 (by simp only [execOp]; go_simp) ?_; refine wpList_valW rfl (.int .i64 0) w9 (by simp only [execOp]; go_simp) ?_; unfold wpList; go_simp; go_wp2_with fail
    refine bodyPost_ret (results_tmp2 rfl _ _ _) rfl ?_; exact HQ.out
end Go.Proofs.YtjpphldojbfpfaaGreatDoor
