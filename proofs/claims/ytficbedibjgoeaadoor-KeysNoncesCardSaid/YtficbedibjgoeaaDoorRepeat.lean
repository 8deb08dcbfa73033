/- The walk of bytes.Repeat of one byte, sixty-four times: its product. No condition. -/
import Derived.Test.YtficbedibjgoeaaDoorKitA
import Derived.Test.YtficbedibjgoeaaDoorRefHmac
import Derived.Test.YtficbedibjgoeaaDoorSsaG
import Derived.Test.YtficbedibjgoeaaDoorSl
import Derived.Lib.MakeNoZero
namespace Go.Proofs.YtficbedibjgoeaaDoor
open Go.RowKit
section
variable {P : Program}
theorem wp_copyA {o : Oper} {a : Act} {K : Act → World → Prop} {Q : Exit → Act → World → Prop} {w : World} {t : TypeId} {g : Nat} {cs : List Value} (hA : Arr w g t cs) (d s : Operand) (dT sT : TypeId)
    (ho : o.op = .call { callee := .builtin .copy, args := #[d, s], argTypes := #[dT, sT] }) (elem : TypeId) (hu : P.underlying dT = some (.slice elem)) (hsz : (P.info? elem).map (·.size) = some 1)
    (off dLen dCap : Nat) (hd : a.eval d = .slice (some ⟨g, off, none⟩) dLen dCap) (A : Option Addr) (m c : Nat) (hs : a.eval s = .slice A m c) (news : List Value) (hr : Rd w A m news) (h1 : ∀ v ∈ news, v.oneCell' = true) (hm : m ≤ dLen) (hm0 : 0 < m) (hfit : off + dLen ≤ cs.length)
    (h : ∀ w2, Arr w2 g t (cs.take off ++ news ++ cs.drop (off + m)) → Below g w w2 → K (a.put o.dst (goInt m)) w2) : o.wp P a w K Q := by
  have hl : news.length = m := hr.1
  unfold Oper.wp
  obtain ⟨ad, _, rfl, _, _⟩ := hr.at_ hm0
  have hrun := run_copy_cells (P := P) w dT sT o.type elem g off dLen dCap ad m c news hu hsz (by rw [hl]; exact (Nat.min_eq_left hm).symm)
    (fun j v hv => by obtain ⟨ad', e, hc⟩ := hr.2 j v hv; injection e with e; subst e; exact hc)
    (fun j hj => by rw [hA.cell (List.getElem?_eq_getElem (by omega : off + j < cs.length))]; rfl) (fun j _ => hA.frozen _) h1
  simp only [execOp, ho, resolve, invoke, builtin, Sem.run_bind, Sem.run_pure, Result.andThen_ok, List.map_toArray, List.map_cons, List.map_nil, hd, hs, hrun]
  rw [hl]
  refine h _ ?_ (below_setCells (Nat.le_refl _) _ _ _)
  have := Arr.setCells_from news off w cs hA (by omega)
  rwa [hl] at this
theorem G_val {ops : Array Oper} {Q : Exit → Act → World → Prop} {L : List (Value → World → Prop)} {i : Nat} {o : Oper} {a : Act} {w : World} {G : World → World → Prop} (hrefl : G w w) (hi : ops[i]? = some o) (hg : o.guard = none) (x : Value) (hφ : L.getD i AnyV = IsV x) (hrun : (execOp a.eval o).run P w = .ok (.value x) w) :
    wpOp P ops Q i (fun a' w' => ∃ v, a' = a.put o.dst v ∧ (L.getD i AnyV) v w' ∧ G w w') a w := by
  rw [hφ]
  unfold wpOp
  have hw : Region.wanted o (yielded ops a.tmps) = true := by simp [Region.wanted, hg]
  simp only [hi, hw, if_true, Oper.wp, hrun, Oper.upon]
  exact .inl ⟨x, rfl, rfl, hrefl⟩
end
theorem dbl : ∀ p : Fin 33, 0 < p.val → 64 % p.val = 0 → 2 * p.val = 64 ∨ 2 * (2 * p.val) ≤ 64 ∧ 64 % (2 * p.val) = 0 := by decide
/-- The block's first p cells are the byte. -/
def RepI (g sz p : Nat) (x : UInt8) (w : World) : Prop := ∃ cl : List Value, cl.length = sz ∧ cl.take p = u8s (List.replicate p x) ∧ Arr w g 5 cl
structure RepG (B g sz p : Nat) (x : UInt8) (a b : World) : Prop where
  one : RepI g sz p x a → RepI g sz p x b
  two : RepI g sz (2 * p) x a → RepI g sz (2 * p) x b
  below : Below B a b
theorem RepG.refl (B g sz p : Nat) (x : UInt8) (w : World) : RepG B g sz p x w w := ⟨id, id, Below.refl _ _⟩
theorem RepG.trans {B g sz p : Nat} {x : UInt8} (a b c : World) (h : RepG B g sz p x a b) (k : RepG B g sz p x b c) : RepG B g sz p x a c := ⟨fun z => k.one (h.one z), fun z => k.two (h.two z), h.below.trans k.below⟩
theorem RepI.rd {g sz p : Nat} {x : UInt8} {w : World} (h : RepI g sz p x w) : Rd w (some ⟨g, 0, none⟩) p (u8s (List.replicate p x)) := by
  obtain ⟨cl, h4, h5, h6⟩ := h
  refine ⟨by simp, fun j v hj => ⟨_, rfl, ?_⟩⟩
  rw [← h5] at hj
  have hj2 : cl[j]? = some v := by
    rw [List.getElem?_take] at hj
    split at hj
    · exact hj
    · simp at hj
  have := h6.cell hj2
  rw [add_row, Nat.zero_add]
  exact this
theorem RepI.half {g sz p : Nat} {x : UInt8} {w : World} (h : RepI g sz (2 * p) x w) : RepI g sz p x w := by
  obtain ⟨cl, h4, h5, h6⟩ := h
  refine ⟨cl, h4, ?_, h6⟩
  have e : cl.take p = (cl.take (2 * p)).take p := by rw [List.take_take]; congr 1; omega
  rw [e, h5]
  simp [u8s, List.take_replicate]
  omega
/-- Behind a copy of its first p cells. -/
theorem RepI.double {g sz p : Nat} {x : UInt8} {w : World} {cl : List Value} (h4 : cl.length = sz) (h5 : cl.take p = u8s (List.replicate p x)) (hp : 2 * p ≤ sz) (hA : Arr w g 5 (cl.take p ++ u8s (List.replicate p x) ++ cl.drop (p + p))) : RepI g sz (2 * p) x w := by
  refine ⟨_, ?_, ?_, hA⟩
  · simp
    omega
  · rw [h5]
    have e : u8s (List.replicate p x) ++ u8s (List.replicate p x) = u8s (List.replicate (2 * p) x) := by
      rw [Nat.two_mul, ← List.replicate_append_replicate]
      simp [u8s]
    rw [e, List.take_append_of_le_length (by simp), List.take_of_length_le (by simp)]
def RepR (B g sz : Nat) (x : UInt8) (w0 : World) (bp : Value) (w : World) : Prop := ∃ p : Nat, (0 < p ∧ p ≤ 64 ∧ (p = 64 ∨ 2 * p ≤ 64 ∧ 64 % p = 0)) ∧ bp = .int .i64 (p : Int) ∧ RepI g sz p x w ∧ Below B w0 w
set_option maxHeartbeats 1000000 in
theorem mul64_one (w : World) : Calls Tryd.prog 48 #[.int .u64 1, .int .u64 64] w fun e w' => e = .returned (.tuple #[.int .u64 0, .int .u64 64]) ∧ w = w' := by
  go_enter Tryd.func48, Tryd.ntmps48
  go_wp2_with fail
  refine bodyPost_ret (results_tmp2 rfl _ _ _) rfl ?_
  exact ⟨rfl, rfl⟩
set_option maxHeartbeats 1000000 in
theorem mul_one (w : World) : Calls Tryd.prog 41 #[.int .u64 1, .int .u64 64] w fun e w' => e = .returned (.tuple #[.int .u64 0, .int .u64 64]) ∧ w = w' := by
  go_enter Tryd.func41, Tryd.ntmps41
  go_wp2_with (go_at_call 48; refine (mul64_one _).mono ?_; rintro e w1 ⟨rfl, rfl⟩)
  refine bodyPost_ret (results_tmp2 rfl _ _ _) rfl ?_
  exact ⟨rfl, rfl⟩
set_option maxHeartbeats 2000000 in
theorem repeat_any (A : Option Addr) (c : Nat) (x : UInt8) (w : World) (hr : Rd w A 1 (u8s [x])) :
    Calls Tryd.prog 34 #[.slice A 1 c, .int .i64 64] w fun e w' => ∃ g, e = .returned (.slice (some ⟨g, 0, none⟩) 64 64) ∧ Rd w' (some ⟨g, 0, none⟩) 64 (u8s (List.replicate 64 x)) ∧ Below w.heap.size w w' := by
  obtain ⟨cs, hrunM, hle, hmax⟩ := Lib.run_makeNoZero (P := Tryd.prog) w #[3] 23 5 Tryd.underlying23 64 (by omega)
  have hcall : (callFunc 42 #[.int .i64 64]).run Tryd.prog w = .ok (.value (.slice (some ⟨w.heap.size, 0, none⟩) 64 cs.size)) ((w.alloc (.cells cs 5)).drewN 2) := by
    rw [run_callFunc_extern Tryd.func42 (by kernel_rfl) (by kernel_rfl) (by kernel_rfl) (e := Extern.BytealgMakeNoZero.makeNoZero #[3] #[23]) (by kernel_rfl)]
    have h := hrunM
    rw [show ((64 : Nat) : Int) = 64 from rfl] at h
    rw [h]
    rfl
  have hm := hmax (by unfold maxLen; omega)
  unfold maxLen at hm
  clear hrunM hmax
  have i1 : (64 : Int) ≤ (cs.size : Int) := by omega
  go_enter Tryd.func34, Tryd.ntmps34
  have hA0 : Arr ((w.alloc (.cells cs 5)).drewN 2) w.heap.size 5 cs.toList := Arr.newAt (w := w) (t := 5) (C := cs) rfl rfl
  have hr0 : Rd ((w.alloc (.cells cs 5)).drewN 2) A 1 (u8s [x]) := hr.alloc _
  have hB0 : Below w.heap.size w ((w.alloc (.cells cs 5)).drewN 2) := ((Below.refl _ _).alloc (Nat.le_refl _) _).drew.drew
  have hcl : cs.toList.length = cs.size := by simp
  go_upto_region 17 with (go_at_call 41; refine (mul_one _).mono ?_; rintro e w1 ⟨rfl, rfl⟩)
  refine wp_region_list ?_
  refine wpList_val rfl (.slice (some ⟨w.heap.size, 0, none⟩) 64 64) ((w.alloc (.cells cs 5)).drewN 2) (by kernel_rfl) ?_
  refine wpList_val rfl (.slice A 1 c) ((w.alloc (.cells cs 5)).drewN 2) (by kernel_rfl) ?_
  refine wpList_copyA hA0 rfl (.tmp 58) (.tmp 59) 23 23 rfl 5 Tryd.underlying23 (by kernel_rfl) 0 64 64 (by kernel_rfl) A 1 c (by kernel_rfl) (u8s [x]) hr0 (u8s_oneCell _) (by omega) (by omega) ?_
  intro w2 hA2 hB2 hO2
  refine wpList_val rfl (.int .i64 1) w2 (by kernel_rfl) ?_
  unfold wpList
  go_simp
  go_wp2_with fail
  have hB3 : Below w.heap.size w w2 := hB0.trans hB2
  obtain ⟨g, hg⟩ : ∃ g, g = w.heap.size := ⟨_, rfl⟩
  rw [← hg] at hA2
  simp only [← hg]
  have HG := Lib.hid hg
  clear hg hA0 hr0 hB0 hO2 hB2 hcall hr
  go_loopw [10, 11] (fun bp ch wr => RepR w.heap.size g cs.size x w bp wr) (fun bp _ _ => 64 - (intOf bp).toNat)
  case atStart =>
    refine ⟨1, ⟨by omega, by omega, .inr ⟨by omega, by omega⟩⟩, rfl, ⟨_, ?_, ?_, hA2⟩, hB3⟩
    · simp
      omega
    · simp [u8s]
  case round =>
    obtain ⟨p, ⟨h0, h1, h2⟩, rfl, hI, h7⟩ := hrel
    have hr0 := hI.rd
    by_cases hp : p = 64
    · subst hp
      go_wp2_with fail
      go_ret
      exact ⟨_, rfl, hr0, h7⟩
    · have i5 : (p : Int) < 64 := by omega
      have i6 : min (p : Int) 64 = (p : Int) := by omega
      go_wp2_with fail
      clear i6
      have HC1 : Hid (∀ w : World, (Instr.sliceAt 23 (.slice (some ⟨g, 0, none⟩) 64 64) (some (.int .i64 ((p : Nat) : Int))) none none).run Tryd.prog w = .ok (.slice (some ⟨g, p, none⟩) (64 - p) (64 - p)) w) := by
        refine Lib.hid fun w => ?_
        rw [run_cut_l (P := Tryd.prog) (lo := p) Tryd.underlying23 (by kernel_rfl) rfl (by omega)]
        simp [cutA, Ne.symm hp, add_row]
      have HC2 : Hid (∀ w : World, (Instr.sliceAt 23 (.slice (some ⟨g, 0, none⟩) 64 64) none (some (.int .i64 ((p : Nat) : Int))) none).run Tryd.prog w = .ok (.slice (some ⟨g, 0, none⟩) p 64) w) :=
        Lib.hid fun w => run_cut_h (P := Tryd.prog) (hi := p) Tryd.underlying23 (by kernel_rfl) rfl (by omega) w
      refine wp_region_cutG (RepG w.heap.size g cs.size p x) (RepG.refl _ _ _ _ _) RepG.trans (by kernel_rfl) [IsV (.int .i64 ((p : Nat) : Int)), IsV (.slice (some ⟨g, 0, none⟩) 64 64), IsV (.int .i64 ((p : Nat) : Int)), IsV (.slice (some ⟨g, p, none⟩) (64 - p) (64 - p)), IsV (.slice (some ⟨g, 0, none⟩) 64 64), IsV (.int .i64 ((p : Nat) : Int)), IsV (.slice (some ⟨g, 0, none⟩) p 64), (fun v w => v = .int .i64 ((p : Nat) : Int) ∧ RepI g cs.size (2 * p) x w), IsV (.int .i64 ((2 * p : Nat) : Int))] 9 (by decide) (by kernel_rfl) (by kernel_rfl) (by kernel_rfl) ?_ ?_ ?_
      · intro φ hφ v w1 w2 h hg
        simp only [List.mem_cons, List.not_mem_nil, or_false] at hφ
        rcases hφ with rfl | rfl | rfl | rfl | rfl | rfl | rfl | rfl | rfl
        all_goals first | exact h | exact ⟨h.1, hg.two h.2⟩
      · refine ⟨?_, ?_, ?_, ?_, ?_, ?_, ?_, ?_, ?_, trivial⟩
        · intro a1 w1 hG hF
          exact G_val (RepG.refl _ _ _ _ _ _) rfl rfl _ rfl (by simp only [execOp, (hF.ol 10 (by kernel_rfl) : a1.eval (.tmp 10) = .int .i64 ((p : Nat) : Int))]; rfl)
        · intro a1 w1 hG hF
          exact G_val (RepG.refl _ _ _ _ _ _) rfl rfl _ rfl (by simp only [execOp, (hF.ol 9 (by kernel_rfl) : a1.eval (.tmp 9) = .slice (some ⟨g, 0, none⟩) 64 64)]; rfl)
        · intro a1 w1 hG hF
          exact G_val (RepG.refl _ _ _ _ _ _) rfl rfl _ rfl (by simp only [execOp, (hF.ol 10 (by kernel_rfl) : a1.eval (.tmp 10) = .int .i64 ((p : Nat) : Int))]; rfl)
        · intro a1 w1 hG hF
          obtain ⟨_, e68, rfl⟩ := hF.dp 1 68 (by kernel_rfl)
          obtain ⟨_, e69, rfl⟩ := hF.dp 2 69 (by kernel_rfl)
          exact G_val (RepG.refl _ _ _ _ _ _) rfl rfl _ rfl (by simp only [execOp, e68, e69, Option.map, Sem.run_bind, HC1.out, Result.andThen_ok, Sem.run_pure])
        · intro a1 w1 hG hF
          exact G_val (RepG.refl _ _ _ _ _ _) rfl rfl _ rfl (by simp only [execOp, (hF.ol 9 (by kernel_rfl) : a1.eval (.tmp 9) = .slice (some ⟨g, 0, none⟩) 64 64)]; rfl)
        · intro a1 w1 hG hF
          exact G_val (RepG.refl _ _ _ _ _ _) rfl rfl _ rfl (by simp only [execOp, (hF.ol 11 (by kernel_rfl) : a1.eval (.tmp 11) = .int .i64 ((p : Nat) : Int))]; rfl)
        · intro a1 w1 hG hF
          obtain ⟨_, e71, rfl⟩ := hF.dp 4 71 (by kernel_rfl)
          obtain ⟨_, e72, rfl⟩ := hF.dp 5 72 (by kernel_rfl)
          exact G_val (RepG.refl _ _ _ _ _ _) rfl rfl _ rfl (by simp only [execOp, e71, e72, Option.map, Sem.run_bind, HC2.out, Result.andThen_ok, Sem.run_pure])
        · intro a1 w1 hG hF
          obtain ⟨_, e70, rfl⟩ := hF.dp 3 70 (by kernel_rfl)
          obtain ⟨_, e73, rfl⟩ := hF.dp 6 73 (by kernel_rfl)
          have hI1 := hG.one hI
          have hr1 := hI1.rd
          obtain ⟨cl, h4, h5, h6⟩ := hI1
          unfold wpOp
          refine .inl (wp_copyA h6 (.tmp 70) (.tmp 73) 23 23 rfl 5 Tryd.underlying23 (by kernel_rfl) p (64 - p) (64 - p) e70 (some ⟨g, 0, none⟩) p 64 e73 (u8s (List.replicate p x)) hr1 (u8s_oneCell _) (by omega) h0 (by omega) ?_)
          intro w3 h6n hB4
          have hD := RepI.double h4 h5 (by omega) h6n
          exact ⟨_, rfl, ⟨rfl, hD⟩, ⟨fun _ => hD.half, fun _ => hD, hB4.mono (by rw [HG.out]; exact Nat.le_refl _)⟩⟩
        · intro a1 w1 hG hF
          obtain ⟨_, e67, rfl⟩ := hF.dp 0 67 (by kernel_rfl)
          obtain ⟨_, e74, rfl, _⟩ := hF.dp 7 74 (by kernel_rfl)
          exact G_val (RepG.refl _ _ _ _ _ _) rfl rfl _ rfl (by rw [run_addN (a := p) (b := p) e67 e74 (by omega), Nat.two_mul])
      · intro vs w1 hG hf
        have z75 : vs 8 = .int .i64 ((2 * p : Nat) : Int) := hf.2.2.2.2.2.2.2.2.1
        have hD : RepI g cs.size (2 * p) x w1 := hf.2.2.2.2.2.2.2.1.2
        have hB8 : Below w.heap.size w w1 := h7.trans ((Below.refl _ _).drew.trans hG.below)
        clear hf
        simp only [List.take_succ_cons, List.take_zero, List.drop_succ_cons, List.drop_zero, putAll, Nat.zero_add, Nat.reduceAdd, z75]
        refine wpList_val rfl (.int .i64 ((2 * p : Nat) : Int)) w1 (by kernel_rfl) ?_
        unfold wpList
        go_simp
        refine ⟨?_, ?_⟩
        · refine ⟨_, _, _, _, _, _, _, _, _, _, _, _, _, _, _, _, _, ?_, rfl⟩
          have hq := dbl ⟨p, by omega⟩ h0 (h2.resolve_left hp).2
          exact ⟨2 * p, ⟨by omega, by omega, hq⟩, by simp, hD, hB8⟩
        · show 64 - (intOf (.int .i64 (2 * (p : Int)))).toNat < 64 - (intOf (.int .i64 (p : Int))).toNat
          simp only [intOf]
          omega
end Go.Proofs.YtficbedibjgoeaaDoor
