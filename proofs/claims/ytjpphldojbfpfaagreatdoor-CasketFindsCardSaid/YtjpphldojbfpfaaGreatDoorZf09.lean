/- Texts of one proof, laid as one: part 9. No condition. -/
import Derived.Test.YtjpphldojbfpfaaGreatDoorZf05
import Derived.Test.YtjpphldojbfpfaaGreatDoorZf08
namespace Go.Proofs.YtjpphldojbfpfaaGreatDoor
open Go.RowKit
theorem run_buildCtx {ev : Operand → Value} {d : Option Tmp} {t : TypeId} {p : String} {af : Array Edge} {gd : Option (Nat × Bool)} {w : World} {x : Operand} {l : List Nat} (hl : l.length = 16) (h1 : ev x = .agg (numsV l).toArray) :
    (execOp ev ⟨d, .build 42 #[(0, x)], t, p, af, gd⟩).run Tryz.prog w = .ok (.value (.agg (ctxC ⟨l, []⟩ none 0 0).toArray)) w := by
  have h : ∀ l : List Nat, l.length = 16 → Tryz.prog.built 42 [(0, .agg (numsV l).toArray)] = some (ctxC ⟨l, []⟩ none 0 0).toArray := by
    intro l hl
    match l, hl with
    | [a0, a1, a2, a3, a4, a5, a6, a7, a8, a9, a10, a11, a12, a13, a14, a15], _ => show _ = _; kernel_rfl
  simp only [execOp, List.map_toArray, List.map_cons, List.map_nil, h1, Sem.run_bind, run_build w 42 #[(0, .agg (numsV l).toArray)] _ (h l hl), Result.andThen_ok, Sem.run_pure]
theorem ctxC_setUp {c : CtxM} (h : c.upto.length = 16) (M : Option Addr) (m cM v : Nat) {k : Nat} (hk : 1 ≤ k ∧ k ≤ 16) : (ctxC c M m cM).set (k - 1) (.int .i64 (v : Int)) = ctxC ⟨c.upto.set (k - 1) v, c.more⟩ M m cM := by
  unfold ctxC numsV; rw [List.set_append, if_pos (by rw [List.length_map, h]; omega), List.map_set]
theorem ctxC_setMore {c : CtxM} (h : c.upto.length = 16) (M M' : Option Addr) (m cM m' cM' : Nat) (more : List DotM) : (ctxC c M m cM).set 16 (.slice M' m' cM') = ctxC ⟨c.upto, more⟩ M' m' cM' := by
  unfold ctxC; rw [List.set_append, if_neg (by rw [numsV_length, h]; omega), numsV_length, h]; rfl
section
variable {ev : Operand → Value} {d : Option Tmp} {t : TypeId} {p : String} {af : Array Edge} {gd : Option (Nat × Bool)} {w : World} {x y z : Operand}
theorem run_storeSl {P : Program} {T : TypeId} {q : Addr} {A : Option Addr} {n c : Nat} (hT : (P.info? T).map (·.size) = some 1) (h1 : ev x = .pointer (some q)) (h2 : ev y = .slice A n c) (hc : (w.cell? q).isSome = true) (hf : w.frozen? q = false) : (execOp ev ⟨d, .store T x y, t, p, af, gd⟩).run P w = .ok .skip (w.setCell q (.slice A n c)) := by
  obtain ⟨v, hv⟩ := Option.isSome_iff_exists.1 hc; simp only [execOp, h1, h2]; go_simp; simp [run_size1 hT, hv, hf]
end
theorem wpList_setSl {P : Program} {w : World} {g : Nat} {t : TypeId} {cs : List Value} {ops : Array Oper} {rest : List Oper} {op : Oper} {a : Act} {Q : Exit → Act → World → Prop} (h : Arr w g t cs) (hgd : op.guard = none) (ty : TypeId) (x y : Operand) (ho : op.op = .store ty x y)
    (hT : (P.info? ty).map (·.size) = some 1) (i : Nat) {A : Option Addr} {n c : Nat} (hx : a.eval x = .pointer (some ⟨g, i, none⟩)) (hy : a.eval y = .slice A n c) (hi : i < cs.length)
    (hK : ∀ w2, w2 = w.setCell ⟨g, i, none⟩ (.slice A n c) → Arr w2 g t (cs.set i (.slice A n c)) → wpList P ops Q rest (a.put op.dst undef) w2) : wpList P ops Q (op :: rest) a w := by
  refine wpList_plain hgd fun K hKK => ?_; unfold Oper.wp; obtain ⟨dst, o, tt, ps, af, gd⟩ := op; simp only at ho; subst ho; rw [run_storeSl hT hx hy (by rw [h.cell (List.getElem?_eq_getElem hi)]; rfl) (h.frozen i)]; exact hKK _ _ (hK _ rfl (h.set i _))
theorem own_setOther {w : World} {B : Nat} {e : TypeId} {size : Nat} {v u : Value} {n g i : Nat} {xs : List Value} (h : w.ownsRow B e size v n xs) (hg : g < B) : (w.setCell ⟨g, i, none⟩ u).ownsRow B e size v n xs := by
  refine ⟨h.1, ?_⟩; rcases h.2 with h2 | ⟨b, cap, cur, e1, h1, h2, h3⟩
  · exact .inl h2
  · exact .inr ⟨b, cap, cur, e1, h1, by rw [heap_setCell_other w ⟨g, i, none⟩ b u (by simp only; omega)]; exact h2, h3⟩
theorem own_keep {w w9 : World} {B B' : Nat} {e : TypeId} {size : Nat} {v : Value} {n g : Nat} {xs : List Value} (h : w.ownsRow B e size v n xs) (hg : g < B) (hoth : ∀ (b : Nat) (t' : TypeId) (cs' : List Value), b ≠ g → Arr w b t' cs' → Arr w9 b t' cs') (hB : B' ≤ B) : w9.ownsRow B' e size v n xs := by
  refine ⟨h.1, ?_⟩; rcases h.2 with h2 | ⟨b, cap, cur, e1, h1, h2, h3⟩
  · exact .inl h2
  · have hA : Arr w b e cur.toList := by unfold Arr; simpa using h2
    have hA9 := hoth b e cur.toList (by omega) hA; unfold Arr at hA9; exact .inr ⟨b, cap, cur, e1, by omega, by simpa using hA9, h3⟩
def dotT : Nat → Obj → Bool := fun _ o => match o with | .cells _ t _ => t == 38 | _ => false
structure Kx (g B : Nat) (w w' : World) : Prop where
  os : w'.os = w.os
  tape : w'.tape = w.tape
  output : w'.output = w.output
  size : w.heap.size ≤ w'.heap.size
  block : ∀ k, k < B → k ≠ g → w'.heap[k]? = w.heap[k]?
theorem Kx.refl (g B : Nat) (w : World) : Kx g B w w := ⟨rfl, rfl, rfl, Nat.le_refl _, fun _ _ _ => rfl⟩
theorem Kx.trans {g B : Nat} {a b c : World} (h : Kx g B a b) (k : Kx g B b c) : Kx g B a c :=
  ⟨k.os.trans h.os, k.tape.trans h.tape, k.output.trans h.output, Nat.le_trans h.size k.size, fun i hi hne => (k.block i hi hne).trans (h.block i hi hne)⟩
theorem Kx.of_below {g B : Nat} {w w' : World} (h : Below B w w') : Kx g B w w' := ⟨h.os, h.tape, h.output, h.size, fun k hk _ => h.block k hk⟩
theorem Kx.of_gr {g B : Nat} {w w' : World} (hB : B ≤ w.heap.size) (h : Gr w w') : Kx g B w w' := ⟨h.os, h.tape, h.output, h.size, fun k hk _ => h.block k (Nat.lt_of_lt_of_le hk hB)⟩
theorem Kx.set (g B i : Nat) (u : Value) (w : World) : Kx g B w (w.setCell ⟨g, i, none⟩ u) := by
  have hg := Lib.grownBy_setCell w g i u
  exact ⟨hg.os, hg.tape, hg.output, hg.size, fun k _ hne => by
    by_cases hk : k < w.heap.size
    · exact hg.block k hk (fun e => hne (Option.some.inj e))
    · have h1 : (w.setCell ⟨g, i, none⟩ u).heap.size = w.heap.size := by simp
      rw [Array.getElem?_eq_none (by omega), Array.getElem?_eq_none (by omega)]⟩
theorem Kx.dots {g B : Nat} {w w' : World} {A : Option Addr} {n : Nat} {L : List DotM} (hK : Kx g B w w') (h : DotsR w A n L) (hb : ∀ b o, A = some ⟨b, o, none⟩ → b < B ∧ b ≠ g) : DotsR w' A n L :=
  ⟨h.1, fun i x hx => by
    obtain ⟨b, o, e, hr⟩ := h.2 i x hx; obtain ⟨h1, h2⟩ := hb b o e; exact ⟨b, o, e, fun j u hu => (World.cell?_of_block (hK.block _ h1 h2)).trans (hr j u hu)⟩⟩
def TidyR (upto : List Nat) (S : List DotM) (n g B : Nat) (w0 : World) (k : Value) (w : World) : Prop := ∃ (i : Nat) (c : CtxM) (M : Option Addr) (m cM : Nat), i ≤ n ∧ k = .int .i64 (i : Int) ∧ Hid (Tidy upto (S.take i) c) ∧ Arr w g 42 (ctxC c M m cM) ∧ OwnD w B M m cM c.more ∧ Kx g B w0 w
theorem TidyR.out {upto : List Nat} {S : List DotM} {n g B : Nat} {w0 : World} {k : Value} {w : World} (h : TidyR upto S n g B w0 k w) : ∃ (i : Nat) (c : CtxM) (M : Option Addr) (m cM : Nat), i ≤ n ∧ k = .int .i64 (i : Int) ∧ Hid (Tidy upto (S.take i) c) ∧ Arr w g 42 (ctxC c M m cM) ∧ OwnD w B M m cM c.more ∧ Kx g B w0 w := h
def CtxQ (P : CtxM → Prop) (w : World) (e : Ending) (w' : World) : Prop := ∃ (c : CtxM) (M : Option Addr) (m cM : Nat), e = .returned (.tuple #[.agg (ctxC c M m cM).toArray, .int .i64 0]) ∧ P c ∧ OwnD w' w.heap.size M m cM c.more ∧ Gr w w'
set_option maxRecDepth 100000 in
set_option maxHeartbeats 8000000 in
theorem tidy_any {upto : List Nat} {A : Option Addr} {n c0 : Nat} {L : List DotM} {w : World} (hl : upto.length = 16) (hs : ∀ n ∈ upto, n ≤ 1099511627776) (hL : DotsR w A n L) (hr : ∀ x ∈ L, rightD x) (hn : n ≤ 32) :
    Calls Tryz.prog 153 #[.agg (numsV upto).toArray, .slice A n c0] w fun e w' => CtxQ (Tidy upto L) w e w' := by
  obtain ⟨iD, zD, hiD, hz0, hz1, hz2, hz3⟩ := infoDt_parts; have HL := Lib.hid hL; have HR := Lib.hid hr; have HS := Lib.hid hs; have HU := Lib.hid hl; have hI16 := info16 hl; have HI16 := Lib.hid hI16; have hUl := numsV_length upto; rw [hl] at hUl; have HT0 := Lib.hid (Tidy.start hl hs); have hB := @run_buildCtx; obtain ⟨V, hV⟩ : ∃ V, V = numsV upto := ⟨_, rfl⟩; have HV := Lib.hid hV; have HI := Lib.hid (infoCtx (c := ⟨upto, []⟩) hl none 0 0); have hcl0 := ctxC_length (c := ⟨upto, []⟩) hl none 0 0; have HCO := Lib.hid (ctxC_one ⟨upto, []⟩ none 0 0); obtain ⟨C0, hC0⟩ : ∃ C, C = ctxC ⟨upto, []⟩ none 0 0 := ⟨_, rfl⟩; have HC0 := Lib.hid hC0; rw [← hC0] at HI hcl0 HCO; rw [← hV] at HI16 hUl ⊢; clear hL hr hs hI16 hB hl hV hC0
  go_enter Tryz.func153, Tryz.ntmps153
  go_upto_region 1 with fail
  have hA2 : Arr ((w.alloc (.cells V.toArray 39)).alloc (.cells (ctxC ⟨List.replicate 16 0, []⟩ none 0 0).toArray 42)) w.heap.size 39 V := (Arr.newAt rfl rfl : Arr (w.alloc (.cells V.toArray 39)) w.heap.size 39 V).gr (Gr.alloc _ _); have hsz : (w.alloc (.cells V.toArray 39)).heap.size = w.heap.size + 1 := Array.size_push _; have hA4 : Arr ((w.alloc (.cells V.toArray 39)).alloc (.cells (ctxC ⟨List.replicate 16 0, []⟩ none 0 0).toArray 42)) (w.heap.size + 1) 42 (ctxC ⟨List.replicate 16 0, []⟩ none 0 0) := by rw [← hsz]; exact Arr.newAt rfl rfl
  have hG0 : Gr w ((w.alloc (.cells V.toArray 39)).alloc (.cells (ctxC ⟨List.replicate 16 0, []⟩ none 0 0).toArray 42)) := (Gr.alloc _ _).trans (Gr.alloc _ _); change Code.wp _ _ _ _ ((w.alloc (.cells V.toArray 39)).alloc (.cells (ctxC ⟨List.replicate 16 0, []⟩ none 0 0).toArray 42)); generalize (w.alloc (.cells V.toArray 39)).alloc (.cells (ctxC ⟨List.replicate 16 0, []⟩ none 0 0).toArray 42) = w0 at hA2 hA4 hG0 ⊢; obtain ⟨g4, hg4⟩ : ∃ g, g = w.heap.size + 1 := ⟨_, rfl⟩; obtain ⟨g2, hg2⟩ : ∃ g, g = w.heap.size := ⟨_, rfl⟩; rw [← hg4] at hA4 ⊢; have hg4w : w.heap.size ≤ g4 := by omega
  rw [← hg2] at hA2 ⊢; clear hg4 hsz
  have HB : Hid (∀ (ev : Operand → Value) (d : Option Tmp) (t : TypeId) (p : String) (af : Array Edge) (gd : Option (Nat × Bool)) (w : World) (x : Operand), ev x = .agg V.toArray → (execOp ev ⟨d, .build 42 #[(0, x)], t, p, af, gd⟩).run Tryz.prog w = .ok (.value (.agg C0.toArray)) w) := Lib.hid (fun ev d t p af gd w x hx => by
    rw [HC0.out]; exact run_buildCtx HU.out (by rw [← HV.out]; exact hx))
  clear hg2
  go_upto_region 2 with first
    | (refine wpList_load_mid rfl _ _ rfl g2 0 rfl V _ (Arr.range hA2) Tryz.underlying39 rfl HI16.out ?_)
    | (refine wpList_valW rfl (.agg C0.toArray) _ (HB.out _ _ _ _ _ _ _ (.tmp 10) rfl) ?_)
    | (refine wpList_new (w := w0) (t := 42) rfl _ _ _ rfl w0.heap.size C0 rfl rfl rfl (by rw [hcl0]; kernel_rfl) HI.out HCO.out ?_; intro w1 hA6 hG6)
  have hG1 := hG0.trans hG6; have hA41 := hA4.gr hG6; have hg46 : g4 < w0.heap.size := hA4.lt; obtain ⟨g6, hg6⟩ : ∃ g, g = w0.heap.size := ⟨_, rfl⟩; rw [← hg6] at hA6 hg46 ⊢; have hg6w : w.heap.size ≤ g6 := by rw [hg6]; exact hG0.size
  clear hg6 hA2 hA4 hG6 hG0; have hcb : (w1.alloc (.cells #[.slice A n c0] 40)).cell? ⟨w1.heap.size, 0, none⟩ = some (.slice A n c0) := (Arr.newAt rfl rfl : Arr (w1.alloc (.cells [.slice A n c0].toArray 40)) w1.heap.size 40 [.slice A n c0]).cell rfl; have hGb : Gr w1 (w1.alloc (.cells #[.slice A n c0] 40)) := Gr.alloc _ _; have HSo := Lib.hid (sorted_any (by omega) hcb ((HL.out.gr hG1).gr hGb)); clear hcb
  go_upto_region 3 with first
    | (go_at_call 176; refine (values_any A n c0 _).mono ?_; rintro e w2 ⟨rfl, rfl⟩)
    | (go_at_call 175; refine HSo.out.mono ?_; rintro e w3 ⟨A3, c3, S, rfl, hp, hsrt, hd3, hbl, hG3⟩)
  have hA63 := (hA6.gr hGb).gr hG3; have hA43 := (hA41.gr hGb).gr hG3; have hGw3 := hG1.trans (hGb.trans hG3); have hg6l : g6 < w1.heap.size := hA6.lt
  have hbl2 : ∀ b o, A3 = some ⟨b, o, none⟩ → b < w3.heap.size ∧ b ≠ g6 := fun b o h => by
    obtain ⟨h1, h2⟩ := hbl b o h; have := hGb.size; exact ⟨h2, by omega⟩
  have hB6 : g6 < w3.heap.size := hA63.lt; have hB4 : g4 < w3.heap.size := by omega
  have hSl : S.length = n := hd3.1; have hrS : ∀ x ∈ S, rightD x := fun x hx => HR.out x (hp.mem_iff.1 hx)
  have hSr : ∀ i d, S[i]? = some d → ∀ x ∈ S.take i, rightD x ∧ ¬ dLt d x := fun i d hd x hx => by
    refine ⟨hrS x (List.mem_of_mem_take hx), ?_⟩; obtain ⟨j, hj, he⟩ := List.mem_iff_getElem.1 hx; rw [List.length_take] at hj; obtain ⟨hi, hde⟩ := List.getElem?_eq_some_iff.1 hd; have h2 := List.pairwise_iff_getElem.1 hsrt j i (by omega) hi (by omega); rw [List.getElem_take] at he; rw [he, hde] at h2; exact h2
  have HP : Hid (∀ c, Tidy upto S c → Tidy upto L c) := Lib.hid (fun c h => ⟨h.len, h.small, h.grow, by rw [← hp.length_eq]; exact h.few, fun d hd => hp.mem_iff.1 (h.mem d hd), h.gap, h.sorted, fun d hd => by rw [h.has d hd, hp.mem_iff]⟩); have HD3 := Lib.hid hd3; have HSL := Lib.hid hSl; have HRS := Lib.hid hrS; have HSR := Lib.hid hSr; have HBL := Lib.hid hbl2; have h0R : TidyR upto S n g6 w3.heap.size w3 (.int .i64 0) w3 := ⟨0, ⟨upto, []⟩, none, 0, 0, Nat.zero_le _, rfl, Lib.hid (by rw [List.take_zero]; exact HT0.out), by rw [← HC0.out]; exact hA63, OwnD.nil _ _, Kx.refl _ _ _⟩; have H0R := Lib.hid h0R; have HA43 := Lib.hid hA43; clear hp hsrt hd3 hbl hbl2 hSl hrS hSr h0R hG3 hGb hG1 hA63 hA43 hA6 hA41 HSo hg6l
  go_loopw [16] (fun k wr => TidyR upto S n g6 w3.heap.size w3 k wr) (fun k _ => n - (intOf k).toNat)
  case atStart => exact H0R.out
  case round =>
    obtain ⟨i, c, M, m, cM, hi, rfl, hTd, hA, hO, hK⟩ := TidyR.out hrel; clear hrel H0R; have HO := Lib.hid hO; have HA := Lib.hid hA; have HK := Lib.hid hK
    have hm32 : m ≤ 32 := by
      have h1 := hTd.out.few; have h2 := hO.len; rw [List.length_take] at h1; omega
    have hclen := hTd.out.len; have hcs := hTd.out.small; have hA4r : Arr wr g4 42 (ctxC ⟨List.replicate 16 0, []⟩ none 0 0) := (hK.block g4 hB4 (by omega)).trans HA43.out; clear hO
    by_cases hlt : i < n
    · obtain ⟨⟨a1, b⟩, hd⟩ : ∃ d, S[i]? = some d := ⟨_, List.getElem?_eq_getElem (by rw [HSL.out]; exact hlt)⟩; obtain ⟨q1, q2, q3, q4⟩ := HRS.out _ (List.mem_of_getElem? hd); simp only at q1 q2 q3 q4; obtain ⟨k1, rfl⟩ : ∃ k1, a1 = k1 + 1 := ⟨a1 - 1, by omega⟩; have hstep := hTd.out.step (HSR.out i _ hd) (HRS.out _ (List.mem_of_getElem? hd)); have htk : S.take i ++ [(k1 + 1, b)] = S.take (i + 1) := by rw [List.take_add_one, hd]; rfl
      rw [htk] at hstep; have HST := Lib.hid hstep; obtain ⟨bA, oA, rfl, hrr⟩ := (hK.dots HD3.out HBL.out).2 i _ hd; obtain ⟨U, hU⟩ : ∃ U, U = upOf c (k1 + 1) := ⟨_, rfl⟩; have hup := ctxC_up hclen M m cM (k := k1 + 1) ⟨by omega, by omega⟩; rw [Nat.add_sub_cancel, ← hU] at hup
      have hU40 : U ≤ 1099511627776 := by
        rw [hU]; unfold upOf; rw [List.getD_eq_getElem?_getD]; cases hq : c.upto[k1 + 1 - 1]? with
        | none => simp
        | some v => exact hcs v (List.mem_of_getElem? hq)
      have hcU := hA.cell hup; have hfU := hA.frozen k1; have hc16 := hA.cell (ctxC_more hclen M m cM); have HU0 := Lib.hid hU; have hk1 : k1 < 16 := by omega
      have c1 : (i : Int) < (n : Int) := by omega
      clear hd hstep htk hup hA hK hU hcs
      go_upto_region 6 with first
        | (refine wpList_load_mid rfl _ _ rfl bA (oA + i * 2) rfl (encD (k1 + 1, b)) _ hrr Tryz.underlying38 rfl (infoDot _) ?_)
        | (refine wpList_new (w := wr) (t := 38) rfl _ _ _ rfl wr.heap.size (encD (k1 + 1, b)) rfl rfl rfl (by kernel_rfl) (infoDot _) (encD_one _) ?_; intro w5 hA8 hG8; have hcD1 := hA8.cell (i := 0) (v := .int .i64 ((k1 + 1 : Nat) : Int)) rfl; have hcD2 := hA8.cell (i := 1) (v := .int .i64 (b : Int)) rfl; replace hcU := Gr.cell hG8 hcU; replace hc16 := Gr.cell hG8 hc16)
      have HR2 : Hid (tidyStep c (k1 + 1, b) = c → ∀ w6, Gr wr w6 → TidyR upto S n g6 w3.heap.size w3 (.int .i64 ((i : Int) + 1)) w6) := Lib.hid (fun he w6 h6 => ⟨i + 1, c, M, m, cM, by omega, by simp, Lib.hid (by rw [← he]; exact HST.out), HA.out.gr h6, HO.out.gr h6, HK.out.trans (Kx.of_gr HK.out.size h6)⟩)
      by_cases e1 : b = U + 1
      · have hb1 : ((b : Int) == (U : Int) + 1) = true := by rw [e1]; simp
        have HR1 : Hid (∀ w6, Gr wr w6 → TidyR upto S n g6 w3.heap.size w3 (.int .i64 ((i : Int) + 1)) (w6.setCell ⟨g6, k1, none⟩ (.int .i64 ((U : Int) + 1)))) := Lib.hid (fun w6 h6 => by
          have hts : tidyStep c (k1 + 1, b) = ⟨c.upto.set k1 b, c.more⟩ := by
            unfold tidyStep; simp only; rw [← HU0.out, if_pos e1, Nat.add_sub_cancel]
          have hbU : (U : Int) + 1 = (b : Int) := by omega
          have hset := ctxC_setUp hclen M m cM b (k := k1 + 1) ⟨by omega, by omega⟩; rw [Nat.add_sub_cancel] at hset; refine ⟨i + 1, ⟨c.upto.set k1 b, c.more⟩, M, m, cM, by omega, by simp, Lib.hid (by rw [← hts]; exact HST.out), ?_, own_setOther (HO.out.gr h6) hB6, HK.out.trans ((Kx.of_gr HK.out.size h6).trans (Kx.set _ _ _ _ _))⟩; rw [← hset, hbU]; exact (HA.out.gr h6).set k1 _)
        clear e1
        go_quiet (fail)
        have hGd : Gr w5 (w5.drewN nq) := below_dr ⟨_, rfl⟩; generalize w5.drewN nq = w6 at hGd ⊢; have hG6 := hG8.trans hGd
        replace hcU := Gr.cell hGd hcU
        have hfU := (HA.out.gr hG6).frozen k1; go_wp2_with fail
        exact ⟨HR1.out _ hG6, by simp only [intOf]; omega⟩
      · have hb1 : ((b : Int) == (U : Int) + 1) = false := beq_false_of_ne (by omega)
        go_quiet (fail)
        have hGd : Gr w5 (w5.drewN nq) := below_dr ⟨_, rfl⟩; generalize w5.drewN nq = w6 at hGd ⊢; have hG6 := hG8.trans hGd; have hcU6 := Gr.cell hGd hcU; have hc166 := Gr.cell hGd hc16; have hcD6 := Gr.cell hGd hcD2; have hA86 := hA8.gr hGd; obtain ⟨g8, hg8⟩ : ∃ g, g = wr.heap.size := ⟨_, rfl⟩; rw [← hg8] at hcD6 hA86 ⊢; have HCo := Lib.hid (fun w1 (h1 : Gr w6 w1) => containsD_any (c := cM) (d := (k1 + 1, b)) ((HO.out.gr (hG6.trans h1)).dots) (by omega : m ≤ 1000000)); clear hg8 hcU hc16 hcD1 hcD2 hA8 hG8 hGd
        go_upto_region 8 with fail
        by_cases e2 : U < b
        · have hbi : (U : Int) < (b : Int) := by omega
          by_cases e3 : (k1 + 1, b) ∈ c.more
          · have hts : tidyStep c (k1 + 1, b) = c := by
              unfold tidyStep; simp only; rw [← HU0.out, if_neg e1, if_neg (fun h => h.2 e3)]
            have HX := Lib.hid (HR2.out hts); rw [decide_eq_true e3] at HCo; clear hts e3; refine wp_region_ssaL (by kernel_rfl) [IsV (.pointer (some ⟨g8, 1, none⟩)), IsV (.int .i64 ((b : Nat) : Int)), IsV (.pointer (some ⟨g6, k1, none⟩)), IsV (.pointer (some ⟨g6, k1, none⟩)), IsV (.int .i64 ((U : Nat) : Int)), IsV (.bool true), IsV (.bool true), IsV (.pointer (some ⟨g6, 16, none⟩)), IsV (.slice M m cM), IsV (.agg (encD (k1 + 1, b)).toArray), IsV (.bool true), IsV (.bool false), IsV (.bool false), IsV (.bool false)] (by kernel_rfl) ?_ ?_ ?_
            · intro φ hφ v w1 w2 h hg; simp only [List.mem_cons, List.not_mem_nil, or_false] at hφ; rcases hφ with rfl | rfl | rfl | rfl | rfl | rfl | rfl | rfl | rfl | rfl | rfl | rfl | rfl | rfl
              all_goals first | exact h | exact RdV.gr h hg
            · refine ⟨?_, ?_, ?_, ?_, ?_, ?_, ?_, ?_, ?_, ?_, ?_, ?_, ?_, ?_, trivial⟩
              · intro a1 w1 hG hF; have e8 : a1.eval (.tmp 8) = .pointer (some ⟨g8, 0, none⟩) := hF.ol 8 (by kernel_rfl); exact s_is rfl (wants0 rfl) _ rfl (run_fieldR (o := 1) (k := 0) Tryz.underlying38 rfl rfl (by kernel_rfl) e8)
              · intro a1 w1 hG hF; obtain ⟨_, e39, rfl⟩ := hF.dp 0 39 (by kernel_rfl); exact s_is rfl (wants0 rfl) _ rfl (run_load1 Tryz.underlying3 e39 (Gr.cell ((Gr.drew w6).trans hG) hcD6))
              · intro a1 w1 hG hF; exact s_old rfl (wants0 rfl) (.tmp 9) (.inr rfl) (.pointer (some ⟨g6, k1, none⟩)) (hF.ol 9 (by kernel_rfl)) rfl
              · intro a1 w1 hG hF; obtain ⟨_, e41, rfl⟩ := hF.dp 2 41 (by kernel_rfl); exact s_is rfl (wants0 rfl) _ rfl (run_nil e41)
              · intro a1 w1 hG hF; obtain ⟨_, e42, rfl⟩ := hF.dp 3 42 (by kernel_rfl); exact s_is rfl (wants0 rfl) _ rfl (run_load1 Tryz.underlying3 e42 (Gr.cell ((Gr.drew w6).trans hG) hcU6))
              · intro a1 w1 hG hF; obtain ⟨_, e40, rfl⟩ := hF.dp 1 40 (by kernel_rfl); obtain ⟨_, e43, rfl⟩ := hF.dp 4 43 (by kernel_rfl); exact s_is rfl (wants0 rfl) _ rfl (by simp only [execOp, e40, e43]; go_simp; try omega)
              · intro a1 w1 hG hF; exact s_same rfl (wants0 rfl) (.tmp 44) (.inr rfl) (hF.dp 5 44 (by kernel_rfl))
              · intro a1 w1 hG hF; have e6 : a1.eval (.tmp 6) = .pointer (some ⟨g6, 0, none⟩) := hF.ol 6 (by kernel_rfl); exact s_is rfl (wantsG hF 6 45 true rfl (by kernel_rfl) rfl) _ rfl (run_fieldR (o := 16) (k := 0) Tryz.underlying42 rfl rfl (by kernel_rfl) e6)
              · intro a1 w1 hG hF; obtain ⟨_, e46, rfl⟩ := hF.dp 7 46 (by kernel_rfl); exact s_is rfl (wantsG hF 6 45 true rfl (by kernel_rfl) rfl) _ rfl (run_load1B (.inr (.inr (.inr (.inl ⟨_, Tryz.underlying40⟩)))) e46 (Gr.cell ((Gr.drew w6).trans hG) hc166))
              · intro a1 w1 hG hF; have e8 : a1.eval (.tmp 8) = .pointer (some ⟨g8, 0, none⟩) := hF.ol 8 (by kernel_rfl); exact s_wp rfl (wantsG hF 6 45 true rfl (by kernel_rfl) rfl) (wp_load_mid _ _ rfl g8 0 e8 (encD (k1 + 1, b)) _ (((Gr.drew w6).trans hG).range (Arr.range hA86)) Tryz.underlying38 rfl (infoDot _) ⟨_, rfl, rfl, Gr.refl _⟩)
              · intro a1 w1 hG hF; obtain ⟨_, e47, rfl⟩ := hF.dp 8 47 (by kernel_rfl); obtain ⟨_, e48, rfl⟩ := hF.dp 9 48 (by kernel_rfl); exact s_call rfl (wantsG hF 6 45 true rfl (by kernel_rfl) rfl) _ rfl _ _ (by simp only [execOp, resolve, invoke, List.map_toArray, List.map_cons, List.map_nil, e47, e48]; go_simp) ((HCo.out w1 ((Gr.drew w6).trans hG)).mono fun e w2 ⟨he, hb⟩ => ⟨_, he, rfl, hb⟩)
              · intro a1 w1 hG hF; obtain ⟨_, e49, rfl⟩ := hF.dp 10 49 (by kernel_rfl); exact s_is rfl (wantsG hF 6 45 true rfl (by kernel_rfl) rfl) _ rfl (by simp only [execOp, e49]; go_simp)
              · intro a1 w1 hG hF; obtain ⟨_, e45, rfl⟩ := hF.dp 6 45 (by kernel_rfl); obtain ⟨_, e50, rfl⟩ := hF.dp 11 50 (by kernel_rfl); exact s_pick rfl (wants0 rfl) (.tmp 45) (.tmp 50) _ rfl e45 _ e50 rfl
              · intro a1 w1 hG hF; exact s_same rfl (wants0 rfl) (.tmp 51) (.inl rfl) (hF.dp 12 51 (by kernel_rfl))
            · intro vs w1 hG hf; have z38 : vs 13 = .bool false := hf.2.2.2.2.2.2.2.2.2.2.2.2.2.1; clear hf; simp only [putAll, Nat.zero_add, Nat.reduceAdd, z38]; have hGe := hG6.trans ((Gr.drew w6).trans hG); clear hG; go_simp; go_wp2_with fail
              exact ⟨HX.out _ hGe, by simp only [intOf]; omega⟩
          · have hts : tidyStep c (k1 + 1, b) = ⟨c.upto, c.more ++ [(k1 + 1, b)]⟩ := by
              unfold tidyStep; simp only; rw [← HU0.out, if_neg e1, if_pos ⟨e2, e3⟩]
            have HTS := Lib.hid hts; rw [decide_eq_false e3] at HCo; clear hts e3; refine wp_region_ssaL (by kernel_rfl) [IsV (.pointer (some ⟨g8, 1, none⟩)), IsV (.int .i64 ((b : Nat) : Int)), IsV (.pointer (some ⟨g6, k1, none⟩)), IsV (.pointer (some ⟨g6, k1, none⟩)), IsV (.int .i64 ((U : Nat) : Int)), IsV (.bool true), IsV (.bool true), IsV (.pointer (some ⟨g6, 16, none⟩)), IsV (.slice M m cM), IsV (.agg (encD (k1 + 1, b)).toArray), IsV (.bool false), IsV (.bool true), IsV (.bool true), IsV (.bool true)] (by kernel_rfl) ?_ ?_ ?_
            · intro φ hφ v w1 w2 h hg; simp only [List.mem_cons, List.not_mem_nil, or_false] at hφ; rcases hφ with rfl | rfl | rfl | rfl | rfl | rfl | rfl | rfl | rfl | rfl | rfl | rfl | rfl | rfl
              all_goals first | exact h | exact RdV.gr h hg
            · refine ⟨?_, ?_, ?_, ?_, ?_, ?_, ?_, ?_, ?_, ?_, ?_, ?_, ?_, ?_, trivial⟩
              · intro a1 w1 hG hF; have e8 : a1.eval (.tmp 8) = .pointer (some ⟨g8, 0, none⟩) := hF.ol 8 (by kernel_rfl); exact s_is rfl (wants0 rfl) _ rfl (run_fieldR (o := 1) (k := 0) Tryz.underlying38 rfl rfl (by kernel_rfl) e8)
              · intro a1 w1 hG hF; obtain ⟨_, e39, rfl⟩ := hF.dp 0 39 (by kernel_rfl); exact s_is rfl (wants0 rfl) _ rfl (run_load1 Tryz.underlying3 e39 (Gr.cell ((Gr.drew w6).trans hG) hcD6))
              · intro a1 w1 hG hF; exact s_old rfl (wants0 rfl) (.tmp 9) (.inr rfl) (.pointer (some ⟨g6, k1, none⟩)) (hF.ol 9 (by kernel_rfl)) rfl
              · intro a1 w1 hG hF; obtain ⟨_, e41, rfl⟩ := hF.dp 2 41 (by kernel_rfl); exact s_is rfl (wants0 rfl) _ rfl (run_nil e41)
              · intro a1 w1 hG hF; obtain ⟨_, e42, rfl⟩ := hF.dp 3 42 (by kernel_rfl); exact s_is rfl (wants0 rfl) _ rfl (run_load1 Tryz.underlying3 e42 (Gr.cell ((Gr.drew w6).trans hG) hcU6))
              · intro a1 w1 hG hF; obtain ⟨_, e40, rfl⟩ := hF.dp 1 40 (by kernel_rfl); obtain ⟨_, e43, rfl⟩ := hF.dp 4 43 (by kernel_rfl); exact s_is rfl (wants0 rfl) _ rfl (by simp only [execOp, e40, e43]; go_simp; try omega)
              · intro a1 w1 hG hF; exact s_same rfl (wants0 rfl) (.tmp 44) (.inr rfl) (hF.dp 5 44 (by kernel_rfl))
              · intro a1 w1 hG hF; have e6 : a1.eval (.tmp 6) = .pointer (some ⟨g6, 0, none⟩) := hF.ol 6 (by kernel_rfl); exact s_is rfl (wantsG hF 6 45 true rfl (by kernel_rfl) rfl) _ rfl (run_fieldR (o := 16) (k := 0) Tryz.underlying42 rfl rfl (by kernel_rfl) e6)
              · intro a1 w1 hG hF; obtain ⟨_, e46, rfl⟩ := hF.dp 7 46 (by kernel_rfl); exact s_is rfl (wantsG hF 6 45 true rfl (by kernel_rfl) rfl) _ rfl (run_load1B (.inr (.inr (.inr (.inl ⟨_, Tryz.underlying40⟩)))) e46 (Gr.cell ((Gr.drew w6).trans hG) hc166))
              · intro a1 w1 hG hF; have e8 : a1.eval (.tmp 8) = .pointer (some ⟨g8, 0, none⟩) := hF.ol 8 (by kernel_rfl); exact s_wp rfl (wantsG hF 6 45 true rfl (by kernel_rfl) rfl) (wp_load_mid _ _ rfl g8 0 e8 (encD (k1 + 1, b)) _ (((Gr.drew w6).trans hG).range (Arr.range hA86)) Tryz.underlying38 rfl (infoDot _) ⟨_, rfl, rfl, Gr.refl _⟩)
              · intro a1 w1 hG hF; obtain ⟨_, e47, rfl⟩ := hF.dp 8 47 (by kernel_rfl); obtain ⟨_, e48, rfl⟩ := hF.dp 9 48 (by kernel_rfl); exact s_call rfl (wantsG hF 6 45 true rfl (by kernel_rfl) rfl) _ rfl _ _ (by simp only [execOp, resolve, invoke, List.map_toArray, List.map_cons, List.map_nil, e47, e48]; go_simp) ((HCo.out w1 ((Gr.drew w6).trans hG)).mono fun e w2 ⟨he, hb⟩ => ⟨_, he, rfl, hb⟩)
              · intro a1 w1 hG hF; obtain ⟨_, e49, rfl⟩ := hF.dp 10 49 (by kernel_rfl); exact s_is rfl (wantsG hF 6 45 true rfl (by kernel_rfl) rfl) _ rfl (by simp only [execOp, e49]; go_simp)
              · intro a1 w1 hG hF; obtain ⟨_, e45, rfl⟩ := hF.dp 6 45 (by kernel_rfl); obtain ⟨_, e50, rfl⟩ := hF.dp 11 50 (by kernel_rfl); exact s_pick rfl (wants0 rfl) (.tmp 45) (.tmp 50) _ rfl e45 _ e50 rfl
              · intro a1 w1 hG hF; exact s_same rfl (wants0 rfl) (.tmp 51) (.inl rfl) (hF.dp 12 51 (by kernel_rfl))
            · intro vs w1 hG hf; have z38 : vs 13 = .bool true := hf.2.2.2.2.2.2.2.2.2.2.2.2.2.1; clear hf; simp only [putAll, Nat.zero_add, Nat.reduceAdd, z38]; have hGe := hG6.trans ((Gr.drew w6).trans hG); have hA8s := hA86.gr ((Gr.drew w6).trans hG); obtain ⟨ws, hws⟩ : ∃ w, w = w1 := ⟨_, rfl⟩; rw [← hws] at hGe hA8s ⊢; clear hws hG hcU6 hc166 hcD6 hA86; go_simp; have hc16s := (HA.out.gr hGe).cell (ctxC_more hclen M m cM); have hOn := (HO.out.gr hGe).gr (Gr.alloc ws (.cells (encD (k1 + 1, b)).toArray 38)); have hAn : Arr (ws.alloc (.cells (encD (k1 + 1, b)).toArray 38)) ws.heap.size 38 (encD (k1 + 1, b)) := Arr.newAt rfl rfl; have hGn := hGe.trans (Gr.alloc ws (.cells (encD (k1 + 1, b)).toArray 38)); have hBn : w3.heap.size ≤ (ws.alloc (.cells (encD (k1 + 1, b)).toArray 38)).heap.size := Nat.le_trans HK.out.size hGn.size; have hA6n := HA.out.gr hGn
              have HR3 : Hid (∀ M7 cM7 w7, w7.ownsRow w3.heap.size 38 2 (.slice M7 (m + 1) cM7) (m + 1) (c.more.flatMap encD ++ encD (k1 + 1, b)) → Arr w7 g6 42 (ctxC c M m cM) → Below w3.heap.size (ws.alloc (.cells (encD (k1 + 1, b)).toArray 38)) w7 → TidyR upto S n g6 w3.heap.size w3 (.int .i64 ((i : Int) + 1)) (w7.setCell ⟨g6, 16, none⟩ (.slice M7 (m + 1) cM7))) := Lib.hid (fun M7 cM7 w7 ho7 hA7 hB7 => by
                refine ⟨i + 1, ⟨c.upto, c.more ++ [(k1 + 1, b)]⟩, M7, m + 1, cM7, by omega, by simp, Lib.hid (by rw [← HTS.out]; exact HST.out), ?_, ?_, HK.out.trans ((Kx.of_gr HK.out.size hGn).trans ((Kx.of_below hB7).trans (Kx.set _ _ _ _ _)))⟩
                · rw [← ctxC_setMore hclen M M7 m cM (m + 1) cM7 (c.more ++ [(k1 + 1, b)])]; exact hA7.set 16 _
                · unfold OwnD; rw [flatD_snoc]; exact own_setOther ho7 hB6)
              have hOn2 : (ws.alloc (.cells (encD (k1 + 1, b)).toArray 38)).ownsRow w3.heap.size 38 2 (.slice M m cM) m (c.more.flatMap encD) := hOn; have hl17 := ctxC_length hclen M m cM; clear hOn hGe HST HR2
              go_wp2_with first
                | (refine wpList_load_mid rfl _ _ rfl g8 0 rfl (encD (k1 + 1, b)) _ (Arr.range hA8s) Tryz.underlying38 rfl (infoDot _) ?_)
                | (refine wpList_valW rfl (.slice (some ⟨ws.heap.size, 0, none⟩) 1 1) _ (run_buildD (x := .tmp 54) rfl) ?_)
                | (at_builtin; go_must (refine wpList_appT rfl (.tmp 53) (.tmp 55) 40 rfl w3.heap.size 38 iD zD 2 16 Tryz.underlying40 hiD hz0 hz1 hz2 hz3 (by omega) rfl hOn2 ⟨ws.heap.size, 0, none⟩ 1 1 (encD (k1 + 1, b)) rfl rfl (fun j u h => by rw [add_row, Nat.zero_add]; exact hAn.cell h) (encD_one _) (by unfold maxLen; omega) (by omega) hBn ?_; intro M7 cM7 w7 ho7 _ hT7; have hA67 := hA6n.tn (hT7 dotT (fun _ _ _ => by simp [dotT])) (fun C f => by simp [dotT]); have hR7 := HR3.out M7 cM7 w7 ho7 hA67 ((hT7 dotT (fun _ _ _ => by simp [dotT])).below hBn); clear ho7 hT7))
                | (refine wpList_setSl hA67 rfl 40 (.tmp 57) (.tmp 56) rfl (by kernel_rfl) 16 rfl rfl (by rw [hl17]; omega) ?_; intro w9 hw9 _; rw [← hw9] at hR7; clear hw9 hA67)
              exact ⟨hR7, by simp only [intOf]; omega⟩
        · have hts : tidyStep c (k1 + 1, b) = c := by
            unfold tidyStep; simp only; rw [← HU0.out, if_neg e1, if_neg (fun h => e2 h.1)]
          have HX := Lib.hid (HR2.out hts); have hbi : ¬ (U : Int) < (b : Int) := by omega
          clear hts; refine wp_region_ssaL (by kernel_rfl) [IsV (.pointer (some ⟨g8, 1, none⟩)), IsV (.int .i64 ((b : Nat) : Int)), IsV (.pointer (some ⟨g6, k1, none⟩)), IsV (.pointer (some ⟨g6, k1, none⟩)), IsV (.int .i64 ((U : Nat) : Int)), IsV (.bool false), IsV (.bool false), IsV (undef), IsV (undef), IsV (undef), IsV (undef), IsV (undef), IsV (.bool false), IsV (.bool false)] (by kernel_rfl) ?_ ?_ ?_
          · intro φ hφ v w1 w2 h hg; simp only [List.mem_cons, List.not_mem_nil, or_false] at hφ; rcases hφ with rfl | rfl | rfl | rfl | rfl | rfl | rfl | rfl | rfl | rfl | rfl | rfl | rfl | rfl
            all_goals first | exact h | exact RdV.gr h hg
          · refine ⟨?_, ?_, ?_, ?_, ?_, ?_, ?_, ?_, ?_, ?_, ?_, ?_, ?_, ?_, trivial⟩
            · intro a1 w1 hG hF; have e8 : a1.eval (.tmp 8) = .pointer (some ⟨g8, 0, none⟩) := hF.ol 8 (by kernel_rfl); exact s_is rfl (wants0 rfl) _ rfl (run_fieldR (o := 1) (k := 0) Tryz.underlying38 rfl rfl (by kernel_rfl) e8)
            · intro a1 w1 hG hF; obtain ⟨_, e39, rfl⟩ := hF.dp 0 39 (by kernel_rfl); exact s_is rfl (wants0 rfl) _ rfl (run_load1 Tryz.underlying3 e39 (Gr.cell ((Gr.drew w6).trans hG) hcD6))
            · intro a1 w1 hG hF; exact s_old rfl (wants0 rfl) (.tmp 9) (.inr rfl) (.pointer (some ⟨g6, k1, none⟩)) (hF.ol 9 (by kernel_rfl)) rfl
            · intro a1 w1 hG hF; obtain ⟨_, e41, rfl⟩ := hF.dp 2 41 (by kernel_rfl); exact s_is rfl (wants0 rfl) _ rfl (run_nil e41)
            · intro a1 w1 hG hF; obtain ⟨_, e42, rfl⟩ := hF.dp 3 42 (by kernel_rfl); exact s_is rfl (wants0 rfl) _ rfl (run_load1 Tryz.underlying3 e42 (Gr.cell ((Gr.drew w6).trans hG) hcU6))
            · intro a1 w1 hG hF; obtain ⟨_, e40, rfl⟩ := hF.dp 1 40 (by kernel_rfl); obtain ⟨_, e43, rfl⟩ := hF.dp 4 43 (by kernel_rfl); exact s_is rfl (wants0 rfl) _ rfl (by simp only [execOp, e40, e43]; go_simp; try omega)
            · intro a1 w1 hG hF; exact s_same rfl (wants0 rfl) (.tmp 44) (.inr rfl) (hF.dp 5 44 (by kernel_rfl))
            · intro a1 w1 hG hF; exact s_not rfl (notN hF 6 45 true rfl (by kernel_rfl) rfl) rfl
            · intro a1 w1 hG hF; exact s_not rfl (notN hF 6 45 true rfl (by kernel_rfl) rfl) rfl
            · intro a1 w1 hG hF; exact s_not rfl (notN hF 6 45 true rfl (by kernel_rfl) rfl) rfl
            · intro a1 w1 hG hF; exact s_not rfl (notN hF 6 45 true rfl (by kernel_rfl) rfl) rfl
            · intro a1 w1 hG hF; exact s_not rfl (notN hF 6 45 true rfl (by kernel_rfl) rfl) rfl
            · intro a1 w1 hG hF; obtain ⟨_, e45, rfl⟩ := hF.dp 6 45 (by kernel_rfl); exact s_pickF rfl (wants0 rfl) (.tmp 45) _ _ rfl e45 _ rfl rfl
            · intro a1 w1 hG hF; exact s_same rfl (wants0 rfl) (.tmp 51) (.inl rfl) (hF.dp 12 51 (by kernel_rfl))
          · intro vs w1 hG hf; have z38 : vs 13 = .bool false := hf.2.2.2.2.2.2.2.2.2.2.2.2.2.1; clear hf; simp only [putAll, Nat.zero_add, Nat.reduceAdd, z38]; have hGe := hG6.trans ((Gr.drew w6).trans hG); clear hG; go_simp; go_wp2_with fail
            exact ⟨HX.out _ hGe, by simp only [intOf]; omega⟩
    · obtain rfl : n = i := by omega
      have c1 : ¬ (n : Int) < (n : Int) := by omega
      have hc16 := HA.out.cell (ctxC_more hclen M m cM); have hcm : (m : Int) ≤ 32 := by omega
      have hTd2 := hTd.out; rw [List.take_of_length_le (Nat.le_of_eq HSL.out)] at hTd2; have HTL := Lib.hid (HP.out c hTd2); have HIc := Lib.hid (infoCtx hclen M m cM); have hl17 := ctxC_length hclen M m cM; have hB9 : w.heap.size ≤ wr.heap.size := Nat.le_trans hGw3.size HK.out.size; have hBe : Gr w wr := ⟨HK.out.os.trans hGw3.os, HK.out.tape.trans hGw3.tape, HK.out.output.trans hGw3.output, hB9, fun k hk => (HK.out.block k (Nat.lt_of_lt_of_le hk hGw3.size) (by omega)).trans (hGw3.block k hk)⟩; clear hTd2 hTd hK
      go_wp2_with first
        | (refine wpList_load_mid rfl _ _ rfl g6 0 rfl (ctxC c M m cM) _ (Arr.range HA.out) Tryz.underlying42 rfl HIc.out ?_)
        | (refine wpList_put hA4r rfl _ _ _ rfl (ctxC c M m cM) rfl rfl (by rw [hl17]; rfl) HIc.out (ctxC_one c M m cM) ?_; intro w9 hA9 hB9' hoth)
      refine bodyPost_ret (results_cell_tmp rfl _ _ g4 _ _ _ _ rfl hA9 Tryz.underlying42 rfl (by have := HIc.out; simpa using this)) rfl ?_; refine ⟨c, M, m, cM, rfl, HTL.out, ?_, Below.trans hBe (hB9'.mono hg4w)⟩; exact own_keep HO.out hB4 hoth hGw3.size
end Go.Proofs.YtjpphldojbfpfaaGreatDoor
