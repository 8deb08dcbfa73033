/- The walk of the ring's Walk: replicas in the order in which a key comes to them. No condition. -/
import Derived.Test.YtmcnnjcbgbdeeaaDoorRSearch
import Derived.Test.YtmcnnjcbgbdeeaaDoorKitA
import Derived.Test.YtmcnnjcbgbdeeaaDoorSl
import Derived.Test.YtmcnnjcbgbdeeaaDoorIdx
import Derived.Test.YtmcnnjcbgbdeeaaDoorSsaN
import Derived.Laws.AppendOwn
namespace Go.Proofs.YtmcnnjcbgbdeeaaDoor
open Go.RowKit
set_option maxRecDepth 100000 in
set_option maxHeartbeats 4000000 in
theorem place_any (A : Option Addr) (n c : Nat) (l : List UInt8) (w : World) (hr : Rd w A n (u8s l)) (h8 : 8 ≤ n) (hc : n ≤ c) :
    Calls Tryd.prog 17 #[.slice A n c] w fun e w' => e = .returned (.int .u64 (beNat (l.take 8) : Nat)) ∧ w = w' := by
  have hcut := run_cut_h (P := Tryd.prog) Tryd.underlying42 (by kernel_rfl) (A := A) (n := n) (c := c) (hi := 8) (h := 8) rfl (by omega) w
  have hr8 : Rd w A 8 (u8s (l.take 8)) := by rw [← u8s_take]; exact hr.take h8
  have HP := Lib.hid (high64_any A c (l.take 8) w hr8)
  generalize beNat (l.take 8) = z at HP ⊢
  go_enter Tryd.func17, Tryd.ntmps17
  go_wp2_with fail
  refine HP.out.mono ?_
  rintro e _ ⟨rfl, rfl⟩
  go_wp2_with fail
  go_ret
  exact ⟨rfl, rfl⟩
/-- What the search yields, its number, its flag. -/
def SrQ (L : List (Nat × Nat × Nat)) (n t : Nat) : Value → World → Prop := fun v _ => ∃ (f : Nat) (q : Bool), v = .tuple #[.int .i64 (f : Int), .bool q] ∧ f ≤ n ∧ ∀ i p, L[i]? = some p → (i < f ↔ p.1 < t)
def SrI (L : List (Nat × Nat × Nat)) (n t : Nat) : Value → World → Prop := fun v _ => ∃ f : Nat, v = .int .i64 (f : Int) ∧ f ≤ n ∧ ∀ i p, L[i]? = some p → (i < f ↔ p.1 < t)
def SrB : Value → World → Prop := fun v _ => ∃ q : Bool, v = .bool q
theorem run_fieldR {P : Program} {ev : Operand → Value} {d : Option Tmp} {t T : TypeId} {s : String} {af : Array Edge} {gd : Option (Nat × Bool)} {w : World} {x : Operand} {g i o k : Nat} {fs : Array Field} {f : Field} (hT : P.underlying T = some (.struct fs)) (hf : fs[i]? = some f) (ho : f.offset = o)
    (hsz : (P.info? f.type).map (·.size) = some (k + 1)) (h1 : ev x = .pointer (some ⟨g, 0, none⟩)) :
    (execOp ev ⟨d, .fieldAddr T x i, t, s, af, gd⟩).run P w = .ok (.value (.pointer (some ⟨g, o, none⟩))) w := by
  subst ho
  have hs : (sizeOf f.type).run P w = .ok (k + 1) w := by
    cases hq : P.info? f.type with
    | none => simp [hq] at hsz
    | some ti =>
      have h2 : ti.size = k + 1 := by simpa [hq] using hsz
      simp [sizeOf, typeInfo, hq, h2]
  simp [execOp, h1, Instr.fieldAt, Instr.sureAddr, run_underlying hT, hf, fieldPlace, hs, add_row]
theorem rot_get {α : Type} {L : List α} {n f k : Nat} (hl : L.length = n) (hf : f ≤ n) (hk : k < n) : (L.drop f ++ L.take f)[k]? = L[(f + k) % n]? := by
  rcases Nat.lt_or_ge (f + k) n with h | h
  · rw [List.getElem?_append_left (by simp; omega), List.getElem?_drop, Nat.mod_eq_of_lt h]
  · rw [List.getElem?_append_right (by simp; omega), List.getElem?_take, if_pos (by simp; omega), List.length_drop, hl]
    congr 1
    rw [Nat.mod_eq_sub_mod h, Nat.mod_eq_of_lt (by omega)]
    omega
/-- Where the order stands. -/
def OutR (R : List Nat) (n : Nat) (w : World) (ov i : Value) (wr : World) : Prop := ∃ (k : Nat) (W : List Nat) (A : Option Addr) (c : Nat), k ≤ n ∧ i = .int .i64 (k : Int) ∧ W = dedup (R.take k) ∧ ov = .slice A W.length c ∧ wr.ownsRow w.heap.size 3 1 (.slice A W.length c) W.length (W.map fun x : Nat => Value.int .i64 (x : Int)) ∧ Gr w wr
/-- What Walk hands back. -/
def WalkQ (L : List (Nat × Nat × Nat)) (n t : Nat) (w : World) (e : Ending) (w' : World) : Prop := ∃ (f : Nat) (u : Value) (W : List Nat), f ≤ n ∧ (∀ i p, L[i]? = some p → (i < f ↔ p.1 < t)) ∧ W = dedup ((L.drop f ++ L.take f).map (·.2.1)) ∧ e = .returned u ∧ w'.ownsRow w.heap.size 3 1 u W.length (W.map fun x : Nat => Value.int .i64 (x : Int)) ∧ Gr w w'
section
variable {ev : Operand → Value} {d : Option Tmp} {t : TypeId} {p : String} {af : Array Edge} {gd : Option (Nat × Bool)} {w : World} {x y : Operand}
theorem run_sizeR {P : Program} {e : TypeId} {k : Nat} (hi : (P.info? e).map (·.size) = some k) (w : World) : (sizeOf e).run P w = .ok k w := by
  cases hq : P.info? e with
  | none => simp [hq] at hi
  | some i =>
    have hs : i.size = k := by simpa [hq] using hi
    simp [sizeOf, typeInfo, hq, hs]
theorem run_idx3 {P : Program} {T e : TypeId} (hT : P.underlying T = some (.slice e)) (hsz : (P.info? e).map (·.size) = some 3) {g o n c k : Nat} (h1 : ev x = .slice (some ⟨g, o, none⟩) n c) (h2 : ev y = .int .i64 (k : Int)) (hk : k < n) :
    (execOp ev ⟨d, .indexAddr T x y, t, p, af, gd⟩).run P w = .ok (.value (.pointer (some ⟨g, o + k * 3, none⟩))) w := by
  simp only [execOp, h1, h2]
  go_simp
  simp [run_sizeR hsz]
theorem run_loadPt {g o : Nat} {z0 z1 z2 : Int} (h1 : ev x = .pointer (some ⟨g, o, none⟩)) (q0 : w.cell? ⟨g, o, none⟩ = some (.int .u64 z0)) (q1 : w.cell? ⟨g, o + 1, none⟩ = some (.int .i64 z1)) (q2 : w.cell? ⟨g, o + 2, none⟩ = some (.int .i64 z2)) :
    (execOp ev ⟨d, .load 53 x, t, p, af, gd⟩).run Tryd.prog w = .ok (.value (.agg #[.int .u64 z0, .int .i64 z1, .int .i64 z2])) w := by
  simp only [execOp, h1]
  go_simp
theorem run_remNN {P : Program} {T U : TypeId} {a m : Nat} (hm : 0 < m) (hl : a ≤ 9223372036854775807) (h1 : ev x = .int .i64 (a : Int)) (h2 : ev y = .int .i64 (m : Int)) : (execOp ev ⟨d, .binOp .rem T x y U, t, p, af, gd⟩).run P w = .ok (.value (.int .i64 ((a % m : Nat) : Int))) w := by
  have hm0 : ¬ (m : Int) = 0 := by omega
  have hmod : (a % m : Nat) ≤ a := Nat.mod_le _ _
  have e1 : (a : Int).tmod (m : Int) = ((a % m : Nat) : Int) := by
    rw [Int.tmod_eq_emod_of_nonneg (by omega)]
    exact (Int.natCast_emod a m).symm
  simp only [execOp, h1, h2]
  go_simp
  omega
end
set_option maxRecDepth 100000 in
set_option maxHeartbeats 16000000 in
theorem walk_any {w : World} {gR : Nat} {reps : Int} {A : Option Addr} {n c : Nat} {L : List (Nat × Nat × Nat)} (hRg : Arr w gR 49 [.int .i64 reps, .slice A n c]) (hP : PtR w A n L) (hn1 : 1 ≤ n) (hn : n ≤ 512) (hs : L.Pairwise fun p q => p.1 ≤ q.1) (K : List UInt8) (hK : K.length = 32) :
    Calls Tryd.prog 9 #[.pointer (some ⟨gR, 0, none⟩), .agg (u8s K).toArray] w fun e w' => WalkQ L n (beNat (K.take 8)) w e w' := by
  obtain ⟨i0, hi0, hz0, hz1, hz2⟩ := info_parts (P := Tryd.prog) (e := 3) (z := .int .i64 0) (size := 1) (bytes := 8) (by kernel_rfl)
  obtain ⟨t, ht⟩ : ∃ t, t = beNat (K.take 8) := ⟨_, rfl⟩
  rw [← ht]
  have h3 : Arr (w.alloc (.cells (u8s K).toArray 23)) w.heap.size 23 (u8s K) := Arr.newAt rfl rfl
  have G0 : Gr w (w.alloc (.cells (u8s K).toArray 23)) := Gr.alloc _ _
  have HPl : Hid (∀ w A c, Rd w A 32 (u8s K) → 32 ≤ c → Calls Tryd.prog 17 #[.slice A 32 c] w fun e w' => e = .returned (.int .u64 (t : Int)) ∧ w = w') := by
    intro w A c h hc
    rw [ht]
    exact place_any A 32 c K w h (by omega) hc
  have HSe : Hid (∀ w, PtR w A n L → Calls Tryd.prog 23 #[.slice A n c, .int .u64 (t : Int), .func (.func 24) #[] #[]] w fun e w' => SearchQ L n t w e w') := fun w h => search_any A n c L t w h (by omega) hs
  clear ht
  go_enter Tryd.func9, Tryd.ntmps9
  go_upto_region 1 with fail
  change Code.wp _ _ _ _ (w.alloc (.cells (u8s K).toArray 23))
  generalize w.alloc (.cells (u8s K).toArray 23) = w0 at h3 G0 ⊢
  obtain ⟨g3, hg3⟩ : ∃ g, g = w.heap.size := ⟨_, rfl⟩
  rw [← hg3] at h3
  simp only [← hg3]
  clear hg3
  have hR0 := hRg.gr G0
  have hP0 := hP.gr G0
  have r1 := hR0.cell (i := 1) (v := .slice A n c) rfl
  have hr3 := h3.rdAll hK
  go_upto_region 3 with fail
  refine wp_region_ssaL (by kernel_rfl) [IsV (.pointer (some ⟨gR, 0, none⟩)), IsV (.pointer (some ⟨gR, 0, none⟩)), IsV (.pointer (some ⟨gR, 1, none⟩)), IsV (.slice A n c), IsV (.slice (some ⟨g3, 0, none⟩) 32 32), IsV (.int .u64 (t : Int)), SrQ L n t, SrQ L n t, SrI L n t, SrB, SrI L n t, SrB] (by kernel_rfl) ?_ ?_ ?_
  · intro φ hφ v w1 w2 h hg
    simp only [List.mem_cons, List.not_mem_nil, or_false] at hφ
    rcases hφ with rfl | rfl | rfl | rfl | rfl | rfl | rfl | rfl | rfl | rfl | rfl | rfl
    all_goals first | exact h | exact RdV.gr h hg
  · refine ⟨?_, ?_, ?_, ?_, ?_, ?_, ?_, ?_, ?_, ?_, ?_, ?_, trivial⟩
    · intro a1 w1 hG hF
      exact s_old rfl (wants0 rfl) (.tmp 0) (.inr rfl) (.pointer (some ⟨gR, 0, none⟩)) (hF.ol 0 (by kernel_rfl)) rfl
    · intro a1 w1 hG hF
      obtain ⟨_, e13, rfl⟩ := hF.dp 0 13 (by kernel_rfl)
      exact s_is rfl (wants0 rfl) _ rfl (run_nil e13)
    · intro a1 w1 hG hF
      obtain ⟨_, e14, rfl⟩ := hF.dp 1 14 (by kernel_rfl)
      exact s_is rfl (wants0 rfl) _ rfl (run_fieldR (o := 1) (k := 0) Tryd.underlying49 rfl rfl (by kernel_rfl) e14)
    · intro a1 w1 hG hF
      obtain ⟨_, e15, rfl⟩ := hF.dp 2 15 (by kernel_rfl)
      exact s_is rfl (wants0 rfl) _ rfl (run_load1B (.inr (.inr (.inr (.inl ⟨_, Tryd.underlying47⟩)))) e15 (Gr.cell ((Gr.drew w0).trans hG) r1))
    · intro a1 w1 hG hF
      have e3 : a1.eval (.tmp 3) = .pointer (some ⟨g3, 0, none⟩) := hF.ol 3 (by kernel_rfl)
      exact s_is rfl (wants0 rfl) _ rfl (by simp only [execOp, e3, Option.map, Sem.run_bind, run_cutAll (P := Tryd.prog) Tryd.underlying23 (by kernel_rfl), Result.andThen_ok, Sem.run_pure])
    · intro a1 w1 hG hF
      obtain ⟨_, e17, rfl⟩ := hF.dp 4 17 (by kernel_rfl)
      exact s_call rfl (wants0 rfl) _ rfl _ _ (by simp only [execOp, resolve, invoke, List.map_toArray, List.map_cons, List.map_nil, e17]; go_simp) ((HPl.out w1 _ _ (((Gr.drew w0).trans hG).rd hr3) (Nat.le_refl _)).mono fun e w2 ⟨he, hw⟩ => ⟨_, he, rfl, hw ▸ Gr.refl _⟩)
    · intro a1 w1 hG hF
      obtain ⟨_, e16, rfl⟩ := hF.dp 3 16 (by kernel_rfl)
      obtain ⟨_, e18, rfl⟩ := hF.dp 5 18 (by kernel_rfl)
      exact s_call rfl (wants0 rfl) _ rfl _ _ (by simp only [execOp, resolve, invoke, List.map_toArray, List.map_cons, List.map_nil, e16, e18]; go_simp) ((HSe.out w1 (hP0.gr ((Gr.drew w0).trans hG))).mono fun e w2 ⟨f, q, he, h1, h2, hg⟩ => ⟨_, he, ⟨f, q, rfl, h1, h2⟩, hg⟩)
    · intro a1 w1 hG hF
      exact s_same rfl (wants0 rfl) (.tmp 19) (.inr rfl) (hF.dp 6 19 (by kernel_rfl))
    · intro a1 w1 hG hF
      obtain ⟨x12, e12, f12⟩ := hF.dp 7 12 (by kernel_rfl)
      obtain ⟨f, q, rfl, h1, h2⟩ := f12
      exact s_val rfl (wants0 rfl) _ rfl (.int .i64 (f : Int)) w1 (by simp only [execOp, e12]; go_simp) ⟨f, rfl, h1, h2⟩ (Gr.refl _)
    · intro a1 w1 hG hF
      obtain ⟨x12, e12, f12⟩ := hF.dp 7 12 (by kernel_rfl)
      obtain ⟨f, q, rfl, h1, h2⟩ := f12
      exact s_val rfl (wants0 rfl) _ rfl (.bool q) w1 (by simp only [execOp, e12]; go_simp) ⟨q, rfl⟩ (Gr.refl _)
    · intro a1 w1 hG hF
      exact s_same rfl (wants0 rfl) (.tmp 20) (.inl rfl) (hF.dp 8 20 (by kernel_rfl))
    · intro a1 w1 hG hF
      exact s_same rfl (wants0 rfl) (.tmp 21) (.inl rfl) (hF.dp 9 21 (by kernel_rfl))
  · intro vs w1 hG hf
    have y5 : (SrI L n t) (vs 10) w1 := hf.2.2.2.2.2.2.2.2.2.2.1
    have y6 : (SrB) (vs 11) w1 := hf.2.2.2.2.2.2.2.2.2.2.2.1
    clear hf
    simp only [putAll, Nat.zero_add, Nat.reduceAdd]
    have hG1 := (Gr.drew w0).trans hG
    have G1 := Gr.trans G0 hG1
    obtain ⟨f, hf, hfn, hfi⟩ := y5
    rw [hf]
    have hR1 := hR0.gr hG1
    have hP1 := hP0.gr hG1
    generalize w1 = w2 at hR1 hP1 G1 ⊢
    clear hG hG1 hR0 hP0 r1 hr3 h3 hf y6 HPl HSe G0
    have r2 := hR1.cell (i := 1) (v := .slice A n c) rfl
    have hfb : f ≤ 512 := by omega
    go_simp
    go_upto_region 6 with fail
    obtain ⟨R, hR⟩ : ∃ R, R = (L.drop f ++ L.take f).map (·.2.1) := ⟨_, rfl⟩
    have hLn := hP.1
    have hRl : R.length = n := by rw [hR]; simp; omega
    have hRk : ∀ k p, k < n → L[(f + k) % n]? = some p → R[k]? = some p.2.1 := fun k p hk hp => by
      rw [hR, List.getElem?_map, rot_get hLn hfn hk, hp]
      rfl
    have HRe := Lib.hid hR
    clear hR r2
    go_simp
    go_loopw [7, 27] (fun ov i wr => OutR R n w ov i wr) (fun _ i _ => n - (intOf i).toNat)
    case atStart => exact ⟨0, [], none, 0, Nat.zero_le _, rfl, by simp [dedup], rfl, ⟨rfl, .inl ⟨rfl, rfl⟩⟩, G1⟩
    case round =>
      obtain ⟨k, W, A2, c2, hkn, rfl, hW, rfl, ho, hG⟩ := hrel
      have HW := Lib.hid hW
      clear hW
      by_cases hlt : k < n
      · have hki : (k : Int) < (n : Int) := by omega
        have hRr := hRg.gr hG
        have hPr := hP.gr hG
        have r1 := hRr.cell (i := 1) (v := .slice A n c) rfl
        have hmod : (f + k) % n < n := Nat.mod_lt _ (by omega)
        have hG0 := hG
        obtain ⟨⟨pa, pb, pr⟩, hp⟩ : ∃ p, L[(f + k) % n]? = some p := ⟨L[(f + k) % n]'(by omega), List.getElem?_eq_getElem (by omega)⟩
        obtain ⟨blk, o, rfl, hc⟩ := hPr.2 _ _ hp
        have q0 : wr.cell? ⟨blk, o + (f + k) % n * 3, none⟩ = some (.int .u64 (pa : Int)) := hc 0 _ rfl
        have q1 : wr.cell? ⟨blk, o + (f + k) % n * 3 + 1, none⟩ = some (.int .i64 (pb : Int)) := hc 1 _ rfl
        have q2 : wr.cell? ⟨blk, o + (f + k) % n * 3 + 2, none⟩ = some (.int .i64 (pr : Int)) := hc 2 _ rfl
        have hRx := hRk k _ hlt hp
        clear hc
        go_upto_region 8 with fail
        refine wp_region_cut (by kernel_rfl) [IsV (.pointer (some ⟨gR, 0, none⟩)), IsV (.pointer (some ⟨gR, 0, none⟩)), IsV (.pointer (some ⟨gR, 1, none⟩)), IsV (.slice (some ⟨blk, o, none⟩) n c), IsV (.int .i64 ((f : Nat) : Int)), IsV (.int .i64 ((k : Nat) : Int)), IsV (.int .i64 ((f + k : Nat) : Int)), IsV (.pointer (some ⟨gR, 0, none⟩)), IsV (.pointer (some ⟨gR, 0, none⟩)), IsV (.pointer (some ⟨gR, 1, none⟩)), IsV (.slice (some ⟨blk, o, none⟩) n c), IsV (.int .i64 ((n : Nat) : Int)), IsV (.int .i64 (((f + k) % n : Nat) : Int)), IsV (.pointer (some ⟨blk, o + (f + k) % n * 3, none⟩)), IsV (.agg #[.int .u64 (pa : Int), .int .i64 (pb : Int), .int .i64 (pr : Int)]), NewA wr.heap.size 53 [.int .u64 0, .int .i64 0, .int .i64 0]] 16 (by decide) (by kernel_rfl) (by kernel_rfl) (by kernel_rfl) ?_ ?_ ?_
        · intro φ hφ v w1 w2 h hg
          simp only [List.mem_cons, List.not_mem_nil, or_false] at hφ
          rcases hφ with rfl | rfl | rfl | rfl | rfl | rfl | rfl | rfl | rfl | rfl | rfl | rfl | rfl | rfl | rfl | rfl
          all_goals first | exact h | exact RdV.gr h hg | exact NewA.gr h hg
        · refine ⟨?_, ?_, ?_, ?_, ?_, ?_, ?_, ?_, ?_, ?_, ?_, ?_, ?_, ?_, ?_, ?_, trivial⟩
          · intro a1 w1 hG hF
            exact s_old rfl (wants0 rfl) (.tmp 0) (.inr rfl) (.pointer (some ⟨gR, 0, none⟩)) (hF.ol 0 (by kernel_rfl)) rfl
          · intro a1 w1 hG hF
            obtain ⟨_, e30, rfl⟩ := hF.dp 0 30 (by kernel_rfl)
            exact s_is rfl (wants0 rfl) _ rfl (run_nil e30)
          · intro a1 w1 hG hF
            obtain ⟨_, e31, rfl⟩ := hF.dp 1 31 (by kernel_rfl)
            exact s_is rfl (wants0 rfl) _ rfl (run_fieldR (o := 1) (k := 0) Tryd.underlying49 rfl rfl (by kernel_rfl) e31)
          · intro a1 w1 hG hF
            obtain ⟨_, e32, rfl⟩ := hF.dp 2 32 (by kernel_rfl)
            exact s_is rfl (wants0 rfl) _ rfl (run_load1B (.inr (.inr (.inr (.inl ⟨_, Tryd.underlying47⟩)))) e32 (Gr.cell ((Gr.drew wr).trans hG) r1))
          · intro a1 w1 hG hF
            exact s_old rfl (wants0 rfl) (.tmp 5) (.inr rfl) (.int .i64 ((f : Nat) : Int)) (hF.ol 5 (by kernel_rfl)) rfl
          · intro a1 w1 hG hF
            exact s_old rfl (wants0 rfl) (.tmp 8) (.inr rfl) (.int .i64 ((k : Nat) : Int)) (hF.ol 8 (by kernel_rfl)) rfl
          · intro a1 w1 hG hF
            obtain ⟨_, e34, rfl⟩ := hF.dp 4 34 (by kernel_rfl)
            obtain ⟨_, e35, rfl⟩ := hF.dp 5 35 (by kernel_rfl)
            exact s_is rfl (wants0 rfl) _ rfl (run_addN (a := f) (b := k) e34 e35 (by omega))
          · intro a1 w1 hG hF
            exact s_old rfl (wants0 rfl) (.tmp 0) (.inr rfl) (.pointer (some ⟨gR, 0, none⟩)) (hF.ol 0 (by kernel_rfl)) rfl
          · intro a1 w1 hG hF
            obtain ⟨_, e37, rfl⟩ := hF.dp 7 37 (by kernel_rfl)
            exact s_is rfl (wants0 rfl) _ rfl (run_nil e37)
          · intro a1 w1 hG hF
            obtain ⟨_, e38, rfl⟩ := hF.dp 8 38 (by kernel_rfl)
            exact s_is rfl (wants0 rfl) _ rfl (run_fieldR (o := 1) (k := 0) Tryd.underlying49 rfl rfl (by kernel_rfl) e38)
          · intro a1 w1 hG hF
            obtain ⟨_, e39, rfl⟩ := hF.dp 9 39 (by kernel_rfl)
            exact s_is rfl (wants0 rfl) _ rfl (run_load1B (.inr (.inr (.inr (.inl ⟨_, Tryd.underlying47⟩)))) e39 (Gr.cell ((Gr.drew wr).trans hG) r1))
          · intro a1 w1 hG hF
            obtain ⟨_, e40, rfl⟩ := hF.dp 10 40 (by kernel_rfl)
            exact s_is rfl (wants0 rfl) _ rfl (run_len_slice Tryd.underlying47 e40)
          · intro a1 w1 hG hF
            obtain ⟨_, e36, rfl⟩ := hF.dp 6 36 (by kernel_rfl)
            obtain ⟨_, e41, rfl⟩ := hF.dp 11 41 (by kernel_rfl)
            exact s_is rfl (wants0 rfl) _ rfl (run_remNN (by omega) (by omega) e36 e41)
          · intro a1 w1 hG hF
            obtain ⟨_, e33, rfl⟩ := hF.dp 3 33 (by kernel_rfl)
            obtain ⟨_, e42, rfl⟩ := hF.dp 12 42 (by kernel_rfl)
            exact s_is rfl (wants0 rfl) _ rfl (run_idx3 (c := c) Tryd.underlying47 (by kernel_rfl) e33 e42 hmod)
          · intro a1 w1 hG hF
            obtain ⟨_, e43, rfl⟩ := hF.dp 13 43 (by kernel_rfl)
            exact s_is rfl (wants0 rfl) _ rfl (run_loadPt e43 (Gr.cell ((Gr.drew wr).trans hG) q0) (Gr.cell ((Gr.drew wr).trans hG) q1) (Gr.cell ((Gr.drew wr).trans hG) q2))
          · intro a1 w1 hG hF
            exact s_val rfl (wants0 rfl) _ rfl _ (w1.alloc (.cells #[.int .u64 0, .int .i64 0, .int .i64 0] 53)) (by simp only [execOp]; go_simp) ⟨_, rfl, ((Gr.drew wr).trans hG).size, Arr.newAt rfl rfl⟩ (Gr.alloc _ _)
        · intro vs w1 hG hf
          have z44 : vs 14 = .agg #[.int .u64 (pa : Int), .int .i64 (pb : Int), .int .i64 (pr : Int)] := hf.2.2.2.2.2.2.2.2.2.2.2.2.2.2.1
          have y9 : (NewA wr.heap.size 53 [.int .u64 0, .int .i64 0, .int .i64 0]) (vs 15) w1 := hf.2.2.2.2.2.2.2.2.2.2.2.2.2.2.2.1
          clear hf
          simp only [List.take_succ_cons, List.take_zero, List.drop_succ_cons, List.drop_zero, putAll, Nat.zero_add, Nat.reduceAdd, z44]
          have hG8 := (Gr.drew wr).trans hG
          obtain ⟨g9, hy9, hg9, h90⟩ := y9
          rw [hy9]
          refine wpList_put h90 rfl 53 (.tmp 9) (.tmp 44) rfl [.int .u64 (pa : Int), .int .i64 (pb : Int), .int .i64 (pr : Int)] (by kernel_rfl) (by kernel_rfl) rfl (by kernel_rfl) (by simp [Value.oneCell']) ?_
          intro w7 h9 hB7 _
          have G7 : Gr wr w7 := Below.trans hG8 (hB7.mono hg9)
          unfold wpList
          go_simp
          have hs7 : w.heap.size ≤ w7.heap.size := Nat.le_trans hG0.size G7.size
          have hG7 : Gr w w7 := Gr.trans hG0 G7
          have o7 := Gr.own G7 ho
          have c1 := h9.cell (i := 1) (v := .int .i64 (pb : Int)) rfl
          have hrd : Rd w7 A2 W.length ((W.map fun x : Nat => (x : Int)).map (Value.int .i64)) := by
            have h := Rd.of_own o7
            rwa [show W.map (fun x : Nat => Value.int .i64 (x : Int)) = (W.map fun x : Nat => (x : Int)).map (Value.int .i64) by simp] at h
          have hWl : W.length ≤ n := by
            rw [HW.out]
            exact Nat.le_trans (dedup_length _) (by simp; omega)
          have hC := contains_any A2 W.length c2 (W.map fun x : Nat => (x : Int)) (pb : Int) w7 hrd (by omega)
          have htk : R.take (k + 1) = R.take k ++ [pb] := by
            rw [List.take_add_one, hRx]
            rfl
          by_cases hm : pb ∈ W
          · have hmem : (pb : Int) ∈ W.map fun x : Nat => (x : Int) := List.mem_map.2 ⟨pb, hm, rfl⟩
            have hW2 : W = dedup (R.take (k + 1)) := by
              rw [htk, dedup_snoc, if_pos (by rw [← HW.out]; exact hm)]
              exact HW.out
            have HW2 := Lib.hid hW2
            clear hW2
            rw [decide_eq_true hmem] at hC
            clear hmem hm hrd htk hRx q0 q1 q2 r1 hp hB7 hG8 h90 ho hy9
            go_wp2_with fail
            refine hC.mono ?_
            rintro e _ ⟨rfl, rfl⟩
            go_wp2_with fail
            exact ⟨⟨k + 1, W, A2, c2, hlt, by go_num, HW2.out, rfl, o7, hG7⟩, by simp [intOf]; omega⟩
          · have hmem : ¬ (pb : Int) ∈ W.map fun x : Nat => (x : Int) := fun h => by
              obtain ⟨x, hx, e⟩ := List.mem_map.1 h
              have : x = pb := by omega
              exact hm (this ▸ hx)
            have hW2 : W ++ [pb] = dedup (R.take (k + 1)) := by
              rw [htk, dedup_snoc, if_neg (by rw [← HW.out]; exact hm), ← HW.out]
            have HW2 := Lib.hid hW2
            clear hW2
            rw [decide_eq_false hmem] at hC
            clear hmem hm hrd htk hRx q0 q1 q2 r1 hp hB7 hG8 h90 ho hy9
            go_wp2_with fail
            refine hC.mono ?_
            rintro e _ ⟨rfl, rfl⟩
            go_wp2_with (at_builtin; go_must (refine wpList_app1 _ rfl (.tmp 50) (.tmp 53) 30 rfl w.heap.size 3 i0 (.int .i64 0) 8 Tryd.underlying30 hi0 hz0 hz1 hz2 rfl (.slice A2 W.length c2) W.length _ rfl o7 _ (.int .i64 (pb : Int)) rfl rfl rfl (by omega) (by unfold maxLen; omega) hs7 ?_))
            intro v8 w8 hA9
            have ho8 := hA9.own
            have hB8 : Below w.heap.size w7 w8 := hA9.below o7 hs7
            rw [show (W.map fun x : Nat => Value.int .i64 (x : Int)) ++ [Value.int .i64 (pb : Int)] = (W ++ [pb]).map fun x : Nat => Value.int .i64 (x : Int) by simp] at ho8
            obtain ⟨A9, c9, rfl, _, _⟩ := own_form ho8
            have hl1 : W.length + 1 = (W ++ [pb]).length := by simp
            rw [hl1] at ho8
            have HL1 := Lib.hid hl1
            have hG9 : Gr w w8 := Below.trans hG7 hB8
            clear hA9 hB8 hl1 o7
            go_simp
            go_wp2_with fail
            exact ⟨⟨k + 1, W ++ [pb], A9, c9, hlt, by go_num, HW2.out, (by rw [HL1.out]), ho8, hG9⟩, by simp [intOf]; omega⟩
      · have hki : ¬ (k : Int) < (n : Int) := by omega
        have hkn' : k = n := by omega
        have hWe : W = dedup ((L.drop f ++ L.take f).map (·.2.1)) := by
          rw [HW.out, ← HRe.out, List.take_of_length_le (by omega)]
        have HWe := Lib.hid hWe
        clear hRk hkn hWe
        go_wp2_with fail
        go_ret
        exact ⟨f, _, W, hfn, hfi, HWe.out, rfl, ho, hG⟩
end Go.Proofs.YtmcnnjcbgbdeeaaDoor

