/- Texts of one proof, laid as one: part 31. No condition. -/
import Derived.Test.YtjpphldojbfpfaaGreatDoorZf30
namespace Go.Proofs.YtjpphldojbfpfaaGreatDoor
open Go.RowKit
def PutShQ (X : Nat → Prop) (D : Dk) (sh lg mp t n : Nat) (R : List (Nm × List SibV)) (v : Value) (w : World) (e : Ending) (w' : World) : Prop := e = .returned v ∧ ShelfIs X w' D sh lg mp t n R ∧ InS (ShB D lg mp) w w'
section
variable {X : Nat → Prop} {w : World} {D : Dk} {sh lg mp t n : Nat} {R : List (Nm × List SibV)}
theorem ShelfIs.put {w9 w5 w6 : World} {k : Nm} {L : List SibV} {M : Nam → Option SlA} {s : SlA} {L' : List Sec} {A' : Option Addr} {c' : Nat} (h : ShelfIs X w D sh lg mp t n R) (hSt : SetsIs X w M (lastV R)) (hs : SetIs X w s (L.map keyV)) (ho : OkR (k, L)) (hG : Gr w w9) (hL : LogIs w5 D lg (t + 1) 0 (recsB R ++ recB (recO k L)) L' A' c')
    (hI : InS (fun i => i = D.d ∨ i = D.gn ∨ i = D.gf ∨ i = lg) w9 w5) (hA' : ∀ ad, A' = some ad → w9.heap.size ≤ ad.block) (hM : SM w6 mp (n + 1) (updS M (ownN k) (some s))) (hJ : InS (fun i => i = mp) w5 w6) : ShelfIs X w6 D sh lg mp (t + 1) (n + 1) (R ++ [(k, L)]) ∧ InS (ShB D lg mp) w w6 := by
  have hx1 : ∀ i, (i = D.d ∨ i = D.gn ∨ i = D.gf ∨ i = lg) → X i := fun i e => h.turn i (by rcases e with e | e | e | e; exact .inl e; exact .inr (.inl e); exact .inr (.inr (.inl e)); exact .inr (.inr (.inr (.inl e)))); have hx2 : ∀ i, i = mp → X i := fun i e => h.turn i (.inr (.inr (.inr (.inr e)))); have hA0 : ∀ ad, A' = some ad → w.heap.size ≤ ad.block := fun ad e => Nat.le_trans hG.size (hA' ad e); refine ⟨⟨fun i hi => Nat.lt_of_lt_of_le (h.old i hi) (Nat.le_trans hG.size (Nat.le_trans hI.size hJ.size)), ?_, h.shX, h.turn, ⟨L', A', c', ?_, fun ad e q => ?_⟩, ⟨_, hM, ?_⟩, ?_, h.dif⟩, ?_⟩
  · exact hJ.arr (hI.arr (h.shelf.gr hG) (fun q => h.shX (hx1 _ q))) (fun q => h.shX (hx2 _ q))
  · rw [recsB_app]
    exact hL.ins hJ (fun e => h.dif.1 e.symm) (fun e => h.dif.2.1 e.symm) (fun e => h.dif.2.2.1 e.symm) (fun e => h.dif.2.2.2 e.symm) (fun ad e q => by
      have h1 := hA0 ad e; have h2 := h.old mp (hx2 mp rfl); omega)
  · have h1 := hA0 ad e; have h2 := h.old _ q; omega
  · exact (((hSt.gr hG).ins hI hx1).ins hJ hx2).upd k L (((hs.gr hG).ins hI hx1).ins hJ hx2)
  · intro p hp; rcases List.mem_append.1 hp with q | q
    · exact h.recs p q
    · rw [List.mem_singleton.1 q]; exact ho
  · exact ((InS.of_gr hG).trans (hI.wide fun i e => by rcases e with e | e | e | e; exact .inl e; exact .inr (.inl e); exact .inr (.inr (.inl e)); exact .inr (.inr (.inr (.inl e))))).trans (hJ.wide fun i e => .inr (.inr (.inr (.inr e))))
set_option maxRecDepth 100000 in
set_option maxHeartbeats 16000000 in
theorem sput_any {A : Option Addr} {q c : Nat} {L : List SibV} (k : Nm) (h : ShelfIs X w D sh lg mp t n R) (hL : SibsR w A q L) (hg : GoodL L) (hq : 0 < q) (hq2 : q ≤ 32) (hap : ∀ b, InB A L b → ¬ X b) (hfit : (recsB R).length + (recO k L).length + 8 ≤ areaN D.N * 64) (ht : t < 1000000) (hn : n < 1000000) :
    Calls Tryz.prog 33 #[.pointer (some ⟨sh, 0, none⟩), nameV (ownN k), .slice A q c] w fun e w' => PutShQ X D sh lg mp (t + 1) (n + 1) (R ++ [(k, L)]) (.int .i64 0) w e w' := by
  obtain ⟨Lg, Al, cl, hlog, hal⟩ := h.log; obtain ⟨M, hM, hSt⟩ := h.map; obtain ⟨s, es1, es2, es3, es4, es5⟩ := sibs_ad (c := c) hL hq; have hnL : L ≠ [] := fun e => by have := hL.1; rw [e] at this; simp at this; omega
  have hs : SetIs X w s (L.map keyV) := ⟨by simpa using hnL, L, by rw [es1, es2]; exact hL, rfl, by rw [es1]; exact hap⟩; have ho := OkR.of k hL hg hq hq2; have ha8 := areaN_le hlog.disk.few.2; have hrl8 : (recO k L).length + 8 ≤ 262080 := by omega
  have HQ := Lib.hid (fun (w9 w5 w6 : World) (L' : List Sec) (A' : Option Addr) (c' : Nat) (x1 : Gr w w9) x2 x3 x4 x5 x6 => ShelfIs.put (w9 := w9) (w5 := w5) (w6 := w6) (k := k) (L := L) (M := M) (s := s) (L' := L') (A' := A') (c' := c') h hSt hs ho x1 x2 x3 x4 x5 x6); have HRec := Lib.hid (fun w1 (g : Gr w w1) => record_own (c := c) k (hL.gr g) hg hq2); have HLe := Lib.hid (fun w1 (g : Gr w w1) => lleft_any (hlog.gr g)); have HAp := Lib.hid (fun w1 (g : Gr w w1) (X7 : Option Addr) (c7 : Nat) (hr : Rd w1 X7 (recO k L).length (u8s (recO k L))) => lappend_any (cX := c7) (hlog.gr g) hr rfl (by omega) hfit ht)
  have HSet : Hid (∀ w1, Arr w1 sh 66 (shC lg mp) → SM w1 mp n M → Calls Tryz.prog 18 #[.pointer (some ⟨sh, 0, none⟩), nameV (ownN k), .slice A q c] w1 fun e w' => e = .returned (.tuple #[]) ∧ SM w' mp (n + 1) (updS M (ownN k) (some s)) ∧ InS (fun i => i = mp) w1 w') := Lib.hid (fun w1 x1 x2 => by
    rw [es5, es4]; exact sset_any x1 x2 (by omega) (ownN k) s.1 q c hq)
  have hS := h.shelf; have HX := Lib.hid (fun (w9 w5 : World) (g : Gr w w9) (hI : InS (fun i => i = D.d ∨ i = D.gn ∨ i = D.gf ∨ i = lg) w9 w5) => (⟨hI.arr (hS.gr g) (fun e => h.shX (h.turn _ (by rcases e with e | e | e | e; exact .inl e; exact .inr (.inl e); exact .inr (.inr (.inl e)); exact .inr (.inr (.inr (.inl e)))))), (hM.gr g).ins hI (fun e => by rcases e with e | e | e | e; exact h.dif.1 e; exact h.dif.2.1 e; exact h.dif.2.2.1 e; exact h.dif.2.2.2 e)⟩ : Arr w5 sh 66 (shC lg mp) ∧ SM w5 mp n M)); have HOld : Hid (∀ i, (i = D.d ∨ i = D.gn ∨ i = D.gf ∨ i = lg) → i < w.heap.size) := Lib.hid (fun i e => h.old i (h.turn i (by rcases e with e | e | e | e; exact .inl e; exact .inr (.inl e); exact .inr (.inr (.inl e)); exact .inr (.inr (.inr (.inl e)))))); have hsz : ¬ ((areaN D.N * 64 - (recsB R).length : Nat) : Int) < (((recO k L).length + 8 : Nat) : Int) := by omega
  obtain ⟨q1, hq1⟩ : ∃ q1, q1 = areaN D.N * 64 - (recsB R).length := ⟨_, rfl⟩; rw [← hq1] at HLe hsz; obtain ⟨C, hC⟩ : ∃ C, C = nameC (ownN k) := ⟨_, rfl⟩; have HI := infoName (ownN k); have hA4 : Arr (w.alloc (.cells C.toArray 69)) w.heap.size 69 C := Arr.newAt rfl rfl; have hG4 : Gr w (w.alloc (.cells C.toArray 69)) := Gr.alloc _ _; unfold nameV at HRec HSet ⊢; rw [← hC] at HRec HSet HI ⊢; obtain ⟨r, hr⟩ : ∃ r, r = recO k L := ⟨_, rfl⟩; rw [← hr] at HRec HAp hsz hrl8; have HR : Hid (r = recO k L) := Lib.hid hr; have HRl := Lib.hid (fun w1 (X7 : Option Addr) (c7 : Nat) (h7 : Rd w1 X7 r.length (u8s r)) => lsize_any (c := c7) h7 rfl (show r.length ≤ 800000 by omega)); obtain ⟨rl, hrl⟩ : ∃ rl, rl = r.length := ⟨_, rfl⟩; rw [← hrl] at HAp HRl hsz; obtain ⟨q2, hq2'⟩ : ∃ q2, q2 = rl + 8 := ⟨_, rfl⟩; rw [← hq2'] at HRl hsz; have HRL : Hid (rl = r.length) := Lib.hid hrl; clear h hL hg hap hfit ht hn hlog hal hM hSt es1 es2 es3 es4 es5 hnL hs ho ha8 hrl8 hq1 hC hr hrl hq2' hq hq2
  go_enter Tryz.func33, Tryz.ntmps33
  go_upto_region 1 with fail
  change Code.wp _ _ _ _ (w.alloc (.cells C.toArray 69)); generalize w.alloc (.cells C.toArray 69) = wB at hA4 hG4 ⊢; obtain ⟨g4, hg4⟩ : ∃ g, g = w.heap.size := ⟨_, rfl⟩; rw [← hg4] at hA4; simp only [← hg4]; have hg4w : w.heap.size ≤ g4 := Nat.le_of_eq hg4.symm; clear hg4
  go_upto_region 4 with first
    | (refine wpList_loadT rfl 69 (.tmp 4) rfl g4 0 (by kernel_rfl) C (Arr.range hA4) Tryz.underlying69 rfl HI ?_)
    | (go_at_call 71; refine (HRec.out wB hG4).mono ?_; rintro e w2 ⟨A7, c7, rfl, ho7, hn7, hG7⟩)
  rw [← HRL.out] at ho7 ⊢; have hr7 := Rd.of_own ho7; have hGw2 := hG4.trans hG7; have hA42 := hA4.gr hG7; have hS2 := hS.gr hGw2; have HS1 := Lib.hid (fun w1 (g : Gr w2 w1) => HRl.out w1 A7 c7 (g.rd hr7)); have HL1 := Lib.hid (fun w1 (g : Gr w2 w1) => HLe.out w1 (hGw2.trans g)); have cl2 := hS2.cell (i := 0) (v := .pointer (some ⟨lg, 0, none⟩)) rfl; clear hA4 hG4 hG7 hS HRec HLe HRl ho7; refine wp_region_cut (by kernel_rfl) [IsV (.slice A7 rl c7), IsV (.int .i64 ((q2 : Nat) : Int)), IsV (.pointer (some ⟨sh, 0, none⟩)), IsV (.pointer (some ⟨sh, 0, none⟩)), IsV (.pointer (some ⟨sh, 0, none⟩)), IsV (.pointer (some ⟨lg, 0, none⟩)), IsV (.int .i64 ((q1 : Nat) : Int))] 7 (by decide) (by kernel_rfl) (by kernel_rfl) (by kernel_rfl) ?_ ?_ ?_
  · intro φ hφ v w1 w2 h hg; simp only [List.mem_cons, List.not_mem_nil, or_false] at hφ; rcases hφ with rfl | rfl | rfl | rfl | rfl | rfl | rfl
    all_goals first | exact h | exact RdV.gr h hg
  · refine ⟨?_, ?_, ?_, ?_, ?_, ?_, ?_, trivial⟩
    · intro a1 w1 hG hF; exact s_old rfl (wants0 rfl) (.tmp 7) (.inr rfl) (.slice A7 rl c7) (hF.ol 7 (by kernel_rfl)) rfl
    · intro a1 w1 hG hF; obtain ⟨_, e20, rfl⟩ := hF.dp 0 20 (by kernel_rfl); exact s_call rfl (wants0 rfl) _ rfl _ _ (by simp only [execOp, resolve, invoke, List.map_toArray, List.map_cons, List.map_nil, e20]; go_simp) (((HS1.out w1 ((Gr.drew w2).trans hG))).mono fun e w2 ⟨he, hb⟩ => ⟨_, he, rfl, hb⟩)
    · intro a1 w1 hG hF; exact s_old rfl (wants0 rfl) (.tmp 0) (.inr rfl) (.pointer (some ⟨sh, 0, none⟩)) (hF.ol 0 (by kernel_rfl)) rfl
    · intro a1 w1 hG hF; obtain ⟨_, e22, rfl⟩ := hF.dp 2 22 (by kernel_rfl); exact s_is rfl (wants0 rfl) _ rfl (run_nil e22)
    · intro a1 w1 hG hF; obtain ⟨_, e23, rfl⟩ := hF.dp 3 23 (by kernel_rfl); exact s_is rfl (wants0 rfl) _ rfl (run_fieldR (o := 0) (k := 0) Tryz.underlying66 rfl rfl (by kernel_rfl) e23)
    · intro a1 w1 hG hF; obtain ⟨_, e24, rfl⟩ := hF.dp 4 24 (by kernel_rfl); exact s_is rfl (wants0 rfl) _ rfl (run_load1B (.inr (.inr (.inr (.inr ⟨_, Tryz.underlying61⟩)))) e24 (Gr.cell ((Gr.drew w2).trans hG) cl2))
    · intro a1 w1 hG hF; obtain ⟨_, e25, rfl⟩ := hF.dp 5 25 (by kernel_rfl); exact s_call rfl (wants0 rfl) _ rfl _ _ (by simp only [execOp, resolve, invoke, List.map_toArray, List.map_cons, List.map_nil, e25]; go_simp) (((HL1.out w1 ((Gr.drew w2).trans hG))).mono fun e w2 ⟨he, hb⟩ => ⟨_, he, rfl, hb⟩)
  · intro vs w9 hG hf; have z21 : vs 1 = .int .i64 ((q2 : Nat) : Int) := hf.2.1; have z26 : vs 6 = .int .i64 ((q1 : Nat) : Int) := hf.2.2.2.2.2.2.1; clear hf; simp only [List.take_succ_cons, List.take_zero, List.drop_succ_cons, List.drop_zero, putAll, Nat.zero_add, Nat.reduceAdd, z21, z26]; have hG29 : Gr w2 w9 := (Gr.drew w2).trans hG; have hG9 := hGw2.trans hG29; have cl9 := Gr.cell hG29 cl2; have hA9 := hA42.gr hG29; have hr9 := hG29.rd hr7; clear hG cl2 hA42 hr7 HS1 HL1; have hsz' : ¬ q1 < q2 := by omega
    unfold wpList; go_simp; refine .inl ?_; unfold wpList; go_simp
    go_upto_region 11 with (go_at_call 75; refine (HAp.out w9 hG9 A7 c7 hr9).mono ?_; rintro e w5 ⟨L', A', c', rfl, hL5, hI5, hA5⟩)
    rw [HR.out] at hL5; obtain ⟨hS5, hM5⟩ := HX.out w9 w5 hG9 hI5; have hA45 : Arr w5 g4 69 C := hI5.arr hA9 (fun e => by have := HOld.out g4 e; omega)
    go_upto_region 12 with first
      | (refine wpList_loadT rfl 69 (.tmp 4) rfl g4 0 (by kernel_rfl) C (Arr.range hA45) Tryz.underlying69 rfl HI ?_)
      | (go_at_call 18; refine (HSet.out w5 hS5 hM5).mono ?_; rintro e w6 ⟨rfl, hM6, hI6⟩)
    have HF := Lib.hid (HQ.out w9 w5 w6 L' A' c' hG9 hL5 hI5 hA5 hM6 hI6); clear hL5 hI5 hA5 hM6 hI6 hS5 hM5; go_wp2_with fail
    go_ret
    exact ⟨rfl, HF.out⟩
end
end Go.Proofs.YtjpphldojbfpfaaGreatDoor
namespace Go.Proofs.YtjpphldojbfpfaaGreatDoor
open Go.RowKit
theorem lastV_of (R : List (Nm × List SibV)) (k : Nm) : lastV R k = [] ∨ ∃ p ∈ R, lastV R k = p.2.map keyV := by
  have key : ∀ (R : List (Nm × List SibV)) (v : List KV), R.foldl (fun v p => if p.1 = k then p.2.map keyV else v) v = v ∨ ∃ p ∈ R, R.foldl (fun v p => if p.1 = k then p.2.map keyV else v) v = p.2.map keyV := by
    intro R
    induction R with
    | nil => exact fun v => .inl rfl
    | cons q R ih =>
      intro v; rw [List.foldl_cons]; rcases ih (if q.1 = k then q.2.map keyV else v) with h | ⟨p, hp, h⟩
      · by_cases e : q.1 = k
        · rw [if_pos e] at h ⊢; exact .inr ⟨q, List.mem_cons_self .., h⟩
        · rw [if_neg e] at h ⊢; exact .inl h
      · exact .inr ⟨p, List.mem_cons_of_mem _ hp, h⟩
  exact key R []
theorem lastV_good {R : List (Nm × List SibV)} (h : ∀ p ∈ R, OkR p) {k : Nm} {L0 : List SibV} (e : L0.map keyV = lastV R k) : GoodL L0 ∧ L0.length ≤ 32 := by
  rcases lastV_of R k with h1 | ⟨p, hp, h1⟩
  · rw [h1] at e; have e2 : L0 = [] := by simpa using e
    subst e2; exact ⟨⟨by simp, List.Pairwise.nil, fun x hx => by simp at hx⟩, by simp⟩
  · rw [h1] at e; refine ⟨(h p hp).good.like e, ?_⟩; have := congrArg List.length e; simp only [List.length_map] at this; rw [this]; exact (h p hp).few
theorem SetsIs.at {X : Nat → Prop} {w : World} {M : Nam → Option SlA} {V : Nm → List KV} (h : SetsIs X w M V) (k : Nm) : ∃ L0, SibsR w (slAd ((M (ownN k)).getD (none, 0, 0))) ((M (ownN k)).getD (none, 0, 0)).2.1 L0 ∧ L0.map keyV = V k ∧ ∀ b, InB (slAd ((M (ownN k)).getD (none, 0, 0))) L0 b → ¬ X b := by
  have h1 := h.2 k; cases hM : M (ownN k) with
  | none =>
    rw [hM] at h1; refine ⟨[], SibsR.nil w _, by rw [h1]; rfl, fun b hb => ?_⟩; rcases hb with ⟨ad, e, _⟩ | ⟨x, hx, _⟩
    · cases e
    · simp at hx
  | some s =>
    rw [hM] at h1; obtain ⟨L, r⟩ := h1.row; exact ⟨L, r⟩
def MrgT (B : Nat) (L1 L2 : List SibV) (v : Value) (w : World) : Prop := ∃ (A : Option Addr) (n c : Nat) (L : List SibV), v = .tuple #[.slice A n c, .int .i64 0] ∧ SibsR w A n L ∧ MergeOf L1 L2 L ∧ ∀ b, InB A L b → B ≤ b
def MrgS (B : Nat) (L1 L2 : List SibV) (v : Value) (w : World) : Prop := ∃ (A : Option Addr) (n c : Nat) (L : List SibV), v = .slice A n c ∧ SibsR w A n L ∧ MergeOf L1 L2 L ∧ ∀ b, InB A L b → B ≤ b
theorem MrgT.gr {B : Nat} {L1 L2 : List SibV} {v : Value} {w w' : World} (h : MrgT B L1 L2 v w) (hG : Gr w w') : MrgT B L1 L2 v w' := by
  obtain ⟨A, n, c, L, e, h1, r⟩ := h; exact ⟨A, n, c, L, e, h1.gr hG, r⟩
theorem MrgS.gr {B : Nat} {L1 L2 : List SibV} {v : Value} {w w' : World} (h : MrgS B L1 L2 v w) (hG : Gr w w') : MrgS B L1 L2 v w' := by
  obtain ⟨A, n, c, L, e, h1, r⟩ := h; exact ⟨A, n, c, L, e, h1.gr hG, r⟩
def SMrgQ (X : Nat → Prop) (D : Dk) (sh lg mp t n : Nat) (R : List (Nm × List SibV)) (k : Nm) (L : List SibV) (w : World) (e : Ending) (w' : World) : Prop := ∃ L0 L', L0.map keyV = lastV R k ∧ MergeOf L0 L L' ∧ PutShQ X D sh lg mp (t + 1) (n + 1) (R ++ [(k, L')]) (.tuple #[.bool true, .int .i64 0]) w e w'
section
variable {X : Nat → Prop} {w : World} {D : Dk} {sh lg mp t n : Nat} {R : List (Nm × List SibV)}
set_option maxRecDepth 100000 in
set_option maxHeartbeats 16000000 in
theorem smerge_any {A : Option Addr} {q c : Nat} {L : List SibV} (k : Nm) (h : ShelfIs X w D sh lg mp t n R) (hL : SibsR w A q L) (hg : GoodL L) (hq : q ≤ 32) (hMg : ∀ L0 L', L0.map keyV = lastV R k → MergeOf L0 L L' → L0.length ≠ L'.length ∧ 0 < L'.length ∧ L'.length ≤ 32 ∧ GoodL L' ∧ (recsB R).length + (recO k L').length + 8 ≤ areaN D.N * 64) (ht : t < 1000000) (hn : n < 1000000) :
    Calls Tryz.prog 14 #[.pointer (some ⟨sh, 0, none⟩), nameV (ownN k), .slice A q c] w fun e w' => SMrgQ X D sh lg mp t n R k L w e w' := by
  obtain ⟨M, hM, hSt⟩ := h.map; obtain ⟨L0, hL0, he0, hb0⟩ := hSt.at k; obtain ⟨hg0, hl0⟩ := lastV_good h.recs he0; have hlk : ∀ w1, Gr w w1 → (Instr.lookup 64 (.map (some mp)) (nameV (ownN k)) false).run Tryz.prog w1 = .ok (slV ((M (ownN k)).getD (none, 0, 0))) w1 := fun w1 g => (hM.gr g).look Tryz.underlying64 (by kernel_rfl) (ownN k); obtain ⟨s0, hs0⟩ : ∃ s0, s0 = (M (ownN k)).getD (none, 0, 0) := ⟨_, rfl⟩; rw [← hs0] at hL0 hb0 hlk; have hl00 := hL0.1; have HMr := Lib.hid (fun w1 (g : Gr w w1) => merge_any (c1 := s0.2.2) (c2 := c) (hL0.gr g) (hL.gr g) hg0 hg (by omega))
  have HSm : Hid (∀ w1 (A' : Option Addr) (n' c' : Nat), n' ≠ s0.2.1 → Calls Tryz.prog 32 #[.slice A' n' c', slV s0] w1 fun e w' => e = .returned (.bool false) ∧ Gr w1 w') := Lib.hid (fun w1 A' n' c' hne => by
    rw [slV_ad]; exact ssame_len hne w1)
  have HPut := Lib.hid (fun w1 (g : Gr w w1) (A' : Option Addr) (n' c' : Nat) (L' : List SibV) (hR : SibsR w1 A' n' L') (hO : MergeOf L0 L L') (hb : ∀ b, InB A' L' b → w.heap.size ≤ b) => sput_any (c := c') k (h.gr g) hR (hMg L0 L' he0 hO).2.2.2.1 (by rw [← hR.1]; exact (hMg L0 L' he0 hO).2.1) (by rw [← hR.1]; exact (hMg L0 L' he0 hO).2.2.1) (fun b q x => by have h1 := hb b q; have h2 := h.old b x; omega) (hMg L0 L' he0 hO).2.2.2.2 ht hn); have HNe := Lib.hid (fun (n' : Nat) (L' : List SibV) (hl : L'.length = n') (hO : MergeOf L0 L L') => (by rw [← hl, ← hl00]; exact fun e => (hMg L0 L' he0 hO).1 e.symm : n' ≠ s0.2.1)); have HE0 := Lib.hid he0; have hS := h.shelf; rw [← slV_ad] at HMr; obtain ⟨C, hC⟩ : ∃ C, C = nameC (ownN k) := ⟨_, rfl⟩; have HI := infoName (ownN k); have hA4 : Arr (w.alloc (.cells C.toArray 69)) w.heap.size 69 C := Arr.newAt rfl rfl; have hG4 : Gr w (w.alloc (.cells C.toArray 69)) := Gr.alloc _ _; have HLk := Lib.hid hlk; unfold nameV at HPut HLk ⊢; rw [← hC] at HPut HLk HI ⊢; obtain ⟨v0, hv0⟩ : ∃ v, v = slV s0 := ⟨_, rfl⟩; rw [← hv0] at HLk HSm HMr; clear h hL hg hq hMg ht hn hM hSt hL0 he0 hb0 hg0 hl0 hlk hs0 hl00 hC hv0
  go_enter Tryz.func14, Tryz.ntmps14
  go_upto_region 1 with fail
  change Code.wp _ _ _ _ (w.alloc (.cells C.toArray 69)); generalize w.alloc (.cells C.toArray 69) = wB at hA4 hG4 ⊢; obtain ⟨g4, hg4⟩ : ∃ g, g = w.heap.size := ⟨_, rfl⟩; rw [← hg4] at hA4; simp only [← hg4]; clear hg4; have cm := (hS.gr hG4).cell (i := 1) (v := .map (some mp)) rfl; have HLB := Lib.hid (fun w1 (g : Gr wB w1) => HLk.out w1 (hG4.trans g)); have HMB := Lib.hid (fun w1 (g : Gr wB w1) => HMr.out w1 (hG4.trans g)); have hwB := hG4.size; refine wp_region_ssaL (by kernel_rfl) [IsV (.pointer (some ⟨sh, 0, none⟩)), IsV (.pointer (some ⟨sh, 0, none⟩)), IsV (.pointer (some ⟨sh, 1, none⟩)), IsV (.map (some mp)), IsV (.agg C.toArray), IsV (v0), IsV (.slice A q c), MrgT w.heap.size L0 L, MrgT w.heap.size L0 L, MrgS w.heap.size L0 L, IsV (.int .i64 ((0 : Nat) : Int)), MrgS w.heap.size L0 L, IsV (.int .i64 ((0 : Nat) : Int))] (by kernel_rfl) ?_ ?_ ?_
  · intro φ hφ v w1 w2 h hg; simp only [List.mem_cons, List.not_mem_nil, or_false] at hφ; rcases hφ with rfl | rfl | rfl | rfl | rfl | rfl | rfl | rfl | rfl | rfl | rfl | rfl | rfl
    all_goals first | exact h | exact RdV.gr h hg | exact MrgT.gr h hg | exact MrgS.gr h hg
  · refine ⟨?_, ?_, ?_, ?_, ?_, ?_, ?_, ?_, ?_, ?_, ?_, ?_, ?_, trivial⟩
    · intro a1 w1 hG hF; exact s_old rfl (wants0 rfl) (.tmp 0) (.inr rfl) (.pointer (some ⟨sh, 0, none⟩)) (hF.ol 0 (by kernel_rfl)) rfl
    · intro a1 w1 hG hF; obtain ⟨_, e12, rfl⟩ := hF.dp 0 12 (by kernel_rfl); exact s_is rfl (wants0 rfl) _ rfl (run_nil e12)
    · intro a1 w1 hG hF; obtain ⟨_, e13, rfl⟩ := hF.dp 1 13 (by kernel_rfl); exact s_is rfl (wants0 rfl) _ rfl (run_fieldR (o := 1) (k := 0) Tryz.underlying66 rfl rfl (by kernel_rfl) e13)
    · intro a1 w1 hG hF; obtain ⟨_, e14, rfl⟩ := hF.dp 2 14 (by kernel_rfl); exact s_is rfl (wants0 rfl) _ rfl (run_load1B (.inr (.inl ⟨_, _, Tryz.underlying64⟩)) e14 (Gr.cell ((Gr.drew wB).trans hG) cm))
    · intro a1 w1 hG hF; have e4 : a1.eval (.tmp 4) = .pointer (some ⟨g4, 0, none⟩) := hF.ol 4 (by kernel_rfl); exact s_wp rfl (wants0 rfl) (wp_load_mid _ _ rfl g4 0 e4 (C) _ (((Gr.drew wB).trans hG).range (Arr.range hA4)) Tryz.underlying69 rfl HI ⟨_, rfl, rfl, Gr.refl _⟩)
    · intro a1 w1 hG hF; obtain ⟨_, e15, rfl⟩ := hF.dp 3 15 (by kernel_rfl); obtain ⟨_, e16, rfl⟩ := hF.dp 4 16 (by kernel_rfl); exact s_is rfl (wants0 rfl) _ rfl (by simp only [execOp, e15, e16, HLB.out w1 ((Gr.drew wB).trans hG), Result.andThen_ok, Sem.run_bind, Sem.run_pure])
    · intro a1 w1 hG hF; exact s_old rfl (wants0 rfl) (.tmp 2) (.inr rfl) (.slice A q c) (hF.ol 2 (by kernel_rfl)) rfl
    · intro a1 w1 hG hF; obtain ⟨_, e17, rfl⟩ := hF.dp 5 17 (by kernel_rfl); obtain ⟨_, e18, rfl⟩ := hF.dp 6 18 (by kernel_rfl); exact s_call rfl (wants0 rfl) _ rfl _ _ (by simp only [execOp, resolve, invoke, List.map_toArray, List.map_cons, List.map_nil, e17, e18]; go_simp) ((HMB.out w1 ((Gr.drew wB).trans hG)).mono fun e w2 ⟨A8, n8, c8, L8, he, h1, h2, h3, hb⟩ => ⟨_, he, ⟨A8, n8, c8, L8, rfl, h1, h2, fun b q => Nat.le_trans (Nat.le_trans hwB (((Gr.drew wB).trans hG)).size) (h3 b q).1⟩, hb⟩)
    · intro a1 w1 hG hF; exact s_same rfl (wants0 rfl) (.tmp 19) (.inr rfl) (hF.dp 7 19 (by kernel_rfl))
    · intro a1 w1 hG hF; obtain ⟨x11, e11, f11⟩ := hF.dp 8 11 (by kernel_rfl); obtain ⟨A8, n8, c8, L8, rfl, r8⟩ := f11; exact s_val rfl (wants0 rfl) _ rfl (.slice A8 n8 c8) w1 (by simp only [execOp, e11]; go_simp) ⟨A8, n8, c8, L8, rfl, r8⟩ (Gr.refl _)
    · intro a1 w1 hG hF; obtain ⟨x11, e11, f11⟩ := hF.dp 8 11 (by kernel_rfl); obtain ⟨A8, n8, c8, L8, rfl, r8⟩ := f11; exact s_is rfl (wants0 rfl) _ rfl (by simp only [execOp, e11]; go_simp)
    · intro a1 w1 hG hF; exact s_same rfl (wants0 rfl) (.tmp 20) (.inl rfl) (hF.dp 9 20 (by kernel_rfl))
    · intro a1 w1 hG hF; exact s_same rfl (wants0 rfl) (.tmp 21) (.inl rfl) (hF.dp 10 21 (by kernel_rfl))
  · intro vs w3 hG hf; have y8 : (MrgS w.heap.size L0 L) (vs 11) w3 := hf.2.2.2.2.2.2.2.2.2.2.2.1; have z9 : vs 12 = .int .i64 ((0 : Nat) : Int) := hf.2.2.2.2.2.2.2.2.2.2.2.2.1; clear hf; simp only [putAll, Nat.zero_add, Nat.reduceAdd, z9]; have hGB3 : Gr wB w3 := (Gr.drew wB).trans hG; have hGw3 := hG4.trans hGB3; have hA43 := hA4.gr hGB3; have cm3 := Gr.cell hGB3 cm; obtain ⟨A8, n8, c8, L8, e8, hR8, hO8, hb8⟩ := y8; simp only [e8]; clear hG hA4 cm HLB HMB e8; have hne := HNe.out n8 L8 hR8.1 hO8; have HS3 := Lib.hid (fun w1 (_ : Gr w3 w1) => HSm.out w1 A8 n8 c8 hne); have HLB := Lib.hid (fun w1 (g : Gr w3 w1) => HLk.out w1 (hGw3.trans g)); have HB8 : Hid (∀ b, InB A8 L8 b → w.heap.size ≤ b) := Lib.hid hb8; have HO8 := Lib.hid hO8; have HR8 := Lib.hid hR8; clear hR8 hO8 hb8 hne hGB3; go_simp
    go_upto_region 2 with fail
    refine wp_region_ssaL (by kernel_rfl) [IsV (.int .i64 ((0 : Nat) : Int)), IsV (.bool false), IsV (.bool false), IsV (.slice A8 n8 c8), IsV (.pointer (some ⟨sh, 0, none⟩)), IsV (.pointer (some ⟨sh, 0, none⟩)), IsV (.pointer (some ⟨sh, 1, none⟩)), IsV (.map (some mp)), IsV (.agg C.toArray), IsV (v0), IsV (.bool false), IsV (.bool false)] (by kernel_rfl) ?_ ?_ ?_
    · intro φ hφ v w1 w2 h hg; simp only [List.mem_cons, List.not_mem_nil, or_false] at hφ; rcases hφ with rfl | rfl | rfl | rfl | rfl | rfl | rfl | rfl | rfl | rfl | rfl | rfl
      all_goals first | exact h | exact RdV.gr h hg
    · refine ⟨?_, ?_, ?_, ?_, ?_, ?_, ?_, ?_, ?_, ?_, ?_, ?_, trivial⟩
      · intro a1 w1 hG hF; exact s_old rfl (wants0 rfl) (.tmp 9) (.inr rfl) (.int .i64 ((0 : Nat) : Int)) (hF.ol 9 (by kernel_rfl)) rfl
      · intro a1 w1 hG hF; obtain ⟨_, e22, rfl⟩ := hF.dp 0 22 (by kernel_rfl); exact s_is rfl (wants0 rfl) _ rfl (by simp only [execOp, e22]; go_simp)
      · intro a1 w1 hG hF; exact s_same rfl (wants0 rfl) (.tmp 23) (.inr rfl) (hF.dp 1 23 (by kernel_rfl))
      · intro a1 w1 hG hF; exact s_old rfl (wantsG hF 2 24 false rfl (by kernel_rfl) rfl) (.tmp 8) (.inr rfl) (.slice A8 n8 c8) (hF.ol 8 (by kernel_rfl)) rfl
      · intro a1 w1 hG hF; exact s_old rfl (wantsG hF 2 24 false rfl (by kernel_rfl) rfl) (.tmp 0) (.inr rfl) (.pointer (some ⟨sh, 0, none⟩)) (hF.ol 0 (by kernel_rfl)) rfl
      · intro a1 w1 hG hF; obtain ⟨_, e26, rfl⟩ := hF.dp 4 26 (by kernel_rfl); exact s_is rfl (wantsG hF 2 24 false rfl (by kernel_rfl) rfl) _ rfl (run_nil e26)
      · intro a1 w1 hG hF; obtain ⟨_, e27, rfl⟩ := hF.dp 5 27 (by kernel_rfl); exact s_is rfl (wantsG hF 2 24 false rfl (by kernel_rfl) rfl) _ rfl (run_fieldR (o := 1) (k := 0) Tryz.underlying66 rfl rfl (by kernel_rfl) e27)
      · intro a1 w1 hG hF; obtain ⟨_, e28, rfl⟩ := hF.dp 6 28 (by kernel_rfl); exact s_is rfl (wantsG hF 2 24 false rfl (by kernel_rfl) rfl) _ rfl (run_load1B (.inr (.inl ⟨_, _, Tryz.underlying64⟩)) e28 (Gr.cell ((Gr.drew w3).trans hG) cm3))
      · intro a1 w1 hG hF; have e4 : a1.eval (.tmp 4) = .pointer (some ⟨g4, 0, none⟩) := hF.ol 4 (by kernel_rfl); exact s_wp rfl (wantsG hF 2 24 false rfl (by kernel_rfl) rfl) (wp_load_mid _ _ rfl g4 0 e4 (C) _ (((Gr.drew w3).trans hG).range (Arr.range hA43)) Tryz.underlying69 rfl HI ⟨_, rfl, rfl, Gr.refl _⟩)
      · intro a1 w1 hG hF; obtain ⟨_, e29, rfl⟩ := hF.dp 7 29 (by kernel_rfl); obtain ⟨_, e30, rfl⟩ := hF.dp 8 30 (by kernel_rfl); exact s_is rfl (wantsG hF 2 24 false rfl (by kernel_rfl) rfl) _ rfl (by simp only [execOp, e29, e30, HLB.out w1 ((Gr.drew w3).trans hG), Result.andThen_ok, Sem.run_bind, Sem.run_pure])
      · intro a1 w1 hG hF; obtain ⟨_, e25, rfl⟩ := hF.dp 3 25 (by kernel_rfl); obtain ⟨_, e31, rfl⟩ := hF.dp 9 31 (by kernel_rfl); exact s_call rfl (wantsG hF 2 24 false rfl (by kernel_rfl) rfl) _ rfl _ _ (by simp only [execOp, resolve, invoke, List.map_toArray, List.map_cons, List.map_nil, e25, e31]; go_simp) ((HS3.out w1 ((Gr.drew w3).trans hG)).mono fun e w2 ⟨he, hb⟩ => ⟨_, he, rfl, hb⟩)
      · intro a1 w1 hG hF; obtain ⟨_, e24, rfl⟩ := hF.dp 2 24 (by kernel_rfl); obtain ⟨_, e32, rfl⟩ := hF.dp 10 32 (by kernel_rfl); exact s_pickF rfl (wants0 rfl) (.tmp 24) _ (.tmp 32) rfl e24 _ e32 rfl
    · intro vs w9 hG hf; have z33 : vs 11 = .bool false := hf.2.2.2.2.2.2.2.2.2.2.2.1; clear hf; simp only [putAll, Nat.zero_add, Nat.reduceAdd, z33]; have hG39 : Gr w3 w9 := (Gr.drew w3).trans hG; have hGw9 := hGw3.trans hG39; have hA49 := hA43.gr hG39; clear hG hA43 cm3 HS3 HLB; go_simp; have HPt := Lib.hid (HPut.out w9 hGw9 A8 n8 c8 L8 (HR8.out.gr hG39) HO8.out HB8.out)
      go_upto_region 5 with first
        | (refine wpList_loadT rfl 69 (.tmp 4) rfl g4 0 (by kernel_rfl) C (Arr.range hA49) Tryz.underlying69 rfl HI ?_)
        | (go_at_call 33; refine HPt.out.mono ?_; rintro e w4 ⟨rfl, hF4, hI4⟩)
      have HF : Hid (SMrgQ X D sh lg mp t n R k L w (.returned (.tuple #[.bool true, .int .i64 0])) w4) := Lib.hid ⟨L0, L8, HE0.out, HO8.out, rfl, hF4, (InS.of_gr hGw9).trans hI4⟩; clear hF4 hI4 HPt; go_wp2_with fail
      refine bodyPost_ret (results_tmp2 rfl _ _ _) rfl ?_; exact HF.out
end
end Go.Proofs.YtjpphldojbfpfaaGreatDoor
namespace Go.Proofs.YtjpphldojbfpfaaGreatDoor
open Go.RowKit
theorem cons_of {α : Type} {n : Nat} {l : List α} (h : l.length = n + 1) : ∃ b r, l = b :: r ∧ r.length = n := by
  cases l with
  | nil => simp at h
  | cons b r => exact ⟨b, r, rfl, by simpa using h⟩
set_option maxRecDepth 100000 in
theorem built_name (k : Nm) : Tryz.prog.built 69 [(0, .int .i64 (-1)), (1, .agg (u8s k.1).toArray)] = some (nameC (ownN k)).toArray := by
  obtain ⟨l, h⟩ := k; show Tryz.prog.built 69 [(0, .int .i64 (-1)), (1, .agg (u8s l).toArray)] = some (.int .i64 (-1) :: u8s l).toArray; obtain ⟨b0, l0, rfl, h0⟩ := cons_of (n := 31) h; obtain ⟨b1, l1, rfl, h1⟩ := cons_of (n := 30) h0; obtain ⟨b2, l2, rfl, h2⟩ := cons_of (n := 29) h1; obtain ⟨b3, l3, rfl, h3⟩ := cons_of (n := 28) h2; obtain ⟨b4, l4, rfl, h4⟩ := cons_of (n := 27) h3; obtain ⟨b5, l5, rfl, h5⟩ := cons_of (n := 26) h4; obtain ⟨b6, l6, rfl, h6⟩ := cons_of (n := 25) h5; obtain ⟨b7, l7, rfl, h7⟩ := cons_of (n := 24) h6; obtain ⟨b8, l8, rfl, h8⟩ := cons_of (n := 23) h7; obtain ⟨b9, l9, rfl, h9⟩ := cons_of (n := 22) h8; obtain ⟨b10, l10, rfl, h10⟩ := cons_of (n := 21) h9; obtain ⟨b11, l11, rfl, h11⟩ := cons_of (n := 20) h10; obtain ⟨b12, l12, rfl, h12⟩ := cons_of (n := 19) h11; obtain ⟨b13, l13, rfl, h13⟩ := cons_of (n := 18) h12; obtain ⟨b14, l14, rfl, h14⟩ := cons_of (n := 17) h13; obtain ⟨b15, l15, rfl, h15⟩ := cons_of (n := 16) h14; obtain ⟨b16, l16, rfl, h16⟩ := cons_of (n := 15) h15; obtain ⟨b17, l17, rfl, h17⟩ := cons_of (n := 14) h16; obtain ⟨b18, l18, rfl, h18⟩ := cons_of (n := 13) h17; obtain ⟨b19, l19, rfl, h19⟩ := cons_of (n := 12) h18; obtain ⟨b20, l20, rfl, h20⟩ := cons_of (n := 11) h19; obtain ⟨b21, l21, rfl, h21⟩ := cons_of (n := 10) h20; obtain ⟨b22, l22, rfl, h22⟩ := cons_of (n := 9) h21; obtain ⟨b23, l23, rfl, h23⟩ := cons_of (n := 8) h22; obtain ⟨b24, l24, rfl, h24⟩ := cons_of (n := 7) h23; obtain ⟨b25, l25, rfl, h25⟩ := cons_of (n := 6) h24; obtain ⟨b26, l26, rfl, h26⟩ := cons_of (n := 5) h25; obtain ⟨b27, l27, rfl, h27⟩ := cons_of (n := 4) h26; obtain ⟨b28, l28, rfl, h28⟩ := cons_of (n := 3) h27; obtain ⟨b29, l29, rfl, h29⟩ := cons_of (n := 2) h28; obtain ⟨b30, l30, rfl, h30⟩ := cons_of (n := 1) h29; obtain ⟨b31, l31, rfl, h31⟩ := cons_of (n := 0) h30; obtain rfl := List.length_eq_zero_iff.1 h31
  kernel_rfl
section
variable {ops : Array Oper} {Q : Exit → Act → World → Prop} {a : Act} {w : World} {rest : List Oper} {op : Oper}
theorem wpList_buildN {C : List Value} {Z : Array Value} (hZ : Tryz.prog.built 69 [(0, .int .i64 (-1)), (1, .agg C.toArray)] = some Z) (hgd : op.guard = none) (x : Operand) (ho : op.op = .build 69 #[(0, .const (.int .i64 (-1))), (1, x)]) (h1 : a.eval x = .agg C.toArray)
    (h : wpList Tryz.prog ops Q rest (a.put op.dst (.agg Z)) w) : wpList Tryz.prog ops Q (op :: rest) a w := by
  refine wpList_plain hgd fun K hK => ?_; unfold Oper.wp; have e0 : a.eval (.const (.int .i64 (-1))) = .int .i64 (-1) := rfl; simp only [execOp, ho, List.map_toArray, List.map_cons, List.map_nil, e0, h1, run_build w 69 #[(0, .int .i64 (-1)), (1, .agg C.toArray)] _ hZ, Sem.run_bind, Result.andThen_ok, Sem.run_pure]; exact hK _ _ h
end
section
variable {X : Nat → Prop} {w : World} {D : Dk} {sh lg mp t n : Nat} {R : List (Nm × List SibV)}
set_option maxRecDepth 100000 in
set_option maxHeartbeats 16000000 in
theorem Smerge_any {A : Option Addr} {q c : Nat} {L : List SibV} (k : Nm) (h : ShelfIs X w D sh lg mp t n R) (hL : SibsR w A q L) (hg : GoodL L) (hq : q ≤ 32) (hMg : ∀ L0 L', L0.map keyV = lastV R k → MergeOf L0 L L' → L0.length ≠ L'.length ∧ 0 < L'.length ∧ L'.length ≤ 32 ∧ GoodL L' ∧ (recsB R).length + (recO k L').length + 8 ≤ areaN D.N * 64) (ht : t < 1000000) (hn : n < 1000000) :
    Calls Tryz.prog 6 #[.pointer (some ⟨sh, 0, none⟩), .agg (u8s k.1).toArray, .slice A q c] w fun e w' => SMrgQ X D sh lg mp t n R k L w e w' := by
  have HM := Lib.hid (fun w1 (g : Gr w w1) => smerge_any (c := c) k (h.gr g) (hL.gr g) hg hq hMg ht hn); have HBt := Lib.hid (built_name k); obtain ⟨C, hC⟩ : ∃ C, C = u8s k.1 := ⟨_, rfl⟩
  have HI : (Tryz.prog.info? 36).map (·.size) = some C.length := by
    rw [hC, u8s_length, k.2]
    kernel_rfl
  have hA4 : Arr (w.alloc (.cells C.toArray 36)) w.heap.size 36 C := Arr.newAt rfl rfl; have hG4 : Gr w (w.alloc (.cells C.toArray 36)) := Gr.alloc _ _; unfold nameV at HM; rw [← hC] at HBt ⊢; obtain ⟨Z, hZ⟩ : ∃ Z, Z = (nameC (ownN k)).toArray := ⟨_, rfl⟩; rw [← hZ] at HM HBt; clear h hL hg hq hMg ht hn hC hZ
  go_enter Tryz.func6, Tryz.ntmps6
  go_upto_region 1 with fail
  change Code.wp _ _ _ _ (w.alloc (.cells C.toArray 36)); generalize w.alloc (.cells C.toArray 36) = wB at hA4 hG4 ⊢; obtain ⟨g4, hg4⟩ : ∃ g, g = w.heap.size := ⟨_, rfl⟩; rw [← hg4] at hA4; simp only [← hg4]; clear hg4
  go_wp2_with first
    | (refine wpList_loadT rfl 36 (.tmp 4) rfl g4 0 (by kernel_rfl) C (Arr.range hA4) Tryz.underlying36 rfl HI ?_)
    | (go_at_call 14; refine (HM.out wB hG4).mono ?_; rintro e w4 ⟨L0, L', h1, h2, rfl, h3, h4⟩; have HF : Hid (SMrgQ X D sh lg mp t n R k L w (.returned (.tuple #[.bool true, .int .i64 0])) w4) := Lib.hid ⟨L0, L', h1, h2, rfl, h3, (InS.of_gr hG4).trans h4⟩; clear h1 h2 h3 h4)
    | (refine wpList_buildN HBt.out rfl _ rfl (by kernel_rfl) ?_)
  refine bodyPost_ret (results_tmp2 rfl _ _ _) rfl ?_; exact HF.out
end
end Go.Proofs.YtjpphldojbfpfaaGreatDoor
namespace Go.Proofs.YtjpphldojbfpfaaGreatDoor
open Go.RowKit
theorem built_shelf (lg mp : Nat) : Tryz.prog.built 66 [(0, .pointer (some ⟨lg, 0, none⟩)), (1, .map (some mp))] = some (shC lg mp).toArray := by kernel_rfl
section
variable {ops : Array Oper} {Q : Exit → Act → World → Prop} {a : Act} {w : World} {rest : List Oper} {op : Oper}
theorem wpList_buildSh (lg mp : Nat) (hgd : op.guard = none) (x y : Operand) (ho : op.op = .build 66 #[(0, x), (1, y)]) (h1 : a.eval x = .pointer (some ⟨lg, 0, none⟩)) (h2 : a.eval y = .map (some mp))
    (h : wpList Tryz.prog ops Q rest (a.put op.dst (.agg (shC lg mp).toArray)) w) : wpList Tryz.prog ops Q (op :: rest) a w := by
  refine wpList_plain hgd fun K hK => ?_; unfold Oper.wp; simp only [execOp, ho, List.map_toArray, List.map_cons, List.map_nil, h1, h2, run_build w 66 #[(0, .pointer (some ⟨lg, 0, none⟩)), (1, .map (some mp))] _ (built_shelf lg mp), Sem.run_bind, Result.andThen_ok, Sem.run_pure]; exact hK _ _ h
end
def SFormQ (D : Dk) (w : World) (e : Ending) (w' : World) : Prop := ∃ sh lg mp L', e = .returned (.tuple #[.pointer (some ⟨sh, 0, none⟩), .int .i64 0]) ∧ w.heap.size ≤ sh ∧ w.heap.size ≤ lg ∧ w.heap.size ≤ mp ∧ lg ≠ mp ∧ sh ≠ lg ∧ sh ≠ mp ∧ Arr w' sh 66 (shC lg mp) ∧ LogIs w' D lg 1 0 [] L' none 0 ∧ SM w' mp 0 (fun _ => none) ∧ InS (fun i => i = D.d ∨ i = D.gn ∨ i = D.gf) w w'
section
variable {w : World} {D : Dk} {B : Nat} {F : List Sec}
set_option maxRecDepth 100000 in
set_option maxHeartbeats 4000000 in
theorem sformat_any (h : DiskIs w D B (List.replicate D.N zeroSec) F none 0 0) (hN : 4 ≤ D.N) : Calls Tryz.prog 5 #[.pointer (some ⟨D.d, 0, none⟩)] w fun e w' => SFormQ D w e w' := by
  have HF := Lib.hid (lformat_any h hN); have hmk := fun t w => run_makeMap (P := Tryz.prog) t w; clear h hN
  go_enter Tryz.func5, Tryz.ntmps5
  go_upto_region 4 with (go_at_call 13; refine HF.out.mono ?_; rintro e w2 ⟨lg, L', rfl, hlg, hL2, hI2⟩)
  have hlt := hL2.log.lt; have HL2 := Lib.hid hL2; have HI2 := Lib.hid hI2; clear hL2 hI2 HF
  go_wp2_with (refine wpList_buildSh lg w2.heap.size rfl _ _ rfl rfl rfl ?_)
  refine bodyPost_ret (results_tmp2 rfl _ _ _) rfl ?_; have hG : Gr w2 ((w2.alloc (.map #[] 0)).alloc (.cells (shC lg w2.heap.size).toArray 66)) := (Gr.alloc w2 _).trans (Gr.alloc _ _); have hs := HI2.out.size; refine ⟨w2.heap.size + 1, lg, w2.heap.size, L', rfl, by omega, hlg, hs, by omega, by omega, by omega, Arr.newAt (by simp) rfl, HL2.out.gr hG, (SM.made w2).gr (Gr.alloc _ _), HI2.out.gr hG⟩
end
end Go.Proofs.YtjpphldojbfpfaaGreatDoor
