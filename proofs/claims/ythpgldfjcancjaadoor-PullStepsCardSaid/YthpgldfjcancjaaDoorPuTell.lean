/- The walk of pull.Tell. No condition. -/
import Derived.Test.YthpgldfjcancjaaDoorMkCalls
import Derived.Test.YthpgldfjcancjaaDoorAppE
import Derived.Test.YthpgldfjcancjaaDoorPuP
namespace Go.Proofs.YthpgldfjcancjaaDoor
open Go.RowKit
theorem infoDg : (Tryd.prog.info? 43).map (fun i => (i.size, i.bytes, i.zero.map (·.cells.size))) = some (32, 32, some 32) := by kernel_rfl
theorem infoDg_parts : ∃ i z, Tryd.prog.info? 43 = some i ∧ i.zero = some z ∧ i.size = 32 ∧ i.bytes = 32 ∧ z.cells.size = 32 := by
  cases hie : Tryd.prog.info? 43 with
  | none => have := infoDg; rw [hie] at this; cases this
  | some ie =>
    have hq := infoDg
    rw [hie] at hq
    simp only [Option.map_some, Option.some.injEq, Prod.mk.injEq] at hq
    obtain ⟨q1, q2, q3⟩ := hq
    cases hz : ie.zero with
    | none => rw [hz] at q3; cases q3
    | some z =>
      rw [hz] at q3
      exact ⟨ie, z, rfl, hz, q1, q2, by simpa using q3⟩
section
variable {ev : Operand → Value} {d : Option Tmp} {t : TypeId} {p : String} {af : Array Edge} {gd : Option (Nat × Bool)} {w : World} {x : Operand}
set_option maxRecDepth 100000 in
theorem run_buildDg {X : List UInt8} (hX : X.length = 32) (h1 : ev x = .agg (u8s X).toArray) :
    (execOp ev ⟨d, .buildSlice 38 1 #[(0, x)], t, p, af, gd⟩).run Tryd.prog w = .ok (.value (.slice (some ⟨w.heap.size, 0, none⟩) 1 1)) (w.alloc (.cells (u8s X).toArray 43)) := by
  obtain ⟨ie, z, hie, hz, q1, _, q3⟩ := infoDg_parts
  have hf : ∀ C : Array Value, C.size = 32 → Instr.fill (fun i => some (i * ie.size, ie.size)) C [(0, .agg (u8s X).toArray)] = some (u8s X).toArray := by
    intro C hC
    rw [fill_step (fun i => some (i * ie.size, ie.size)) C 0 (.agg (u8s X).toArray) (u8s X) 0 (by simp [q1, hX]) rfl [] (by simp [hX, hC])]
    simp only [Instr.fill]
    rw [List.drop_of_length_le (by simp [hX, hC])]
    simp
  have h := run_buildSlice (P := Tryd.prog) w 38 43 1 #[(0, .agg (u8s X).toArray)] (u8s X).toArray ie z Tryd.underlying38 hie hz (by rw [q1]; omega) (by rw [q1]; omega) (hf _ (by simp [q1]))
  simp only [execOp, List.map_toArray, List.map_cons, List.map_nil, h1, Sem.run_bind, h, Result.andThen_ok, Sem.run_pure]
end
/-- What Tell's calls of Node answer. -/
def NodeQ (q : Option Addr) (lv : Int) (zs : List Int) (ok : Nat → Bool) (D : Nat → Nm) (w : World) : Prop := ∀ i z, zs[i]? = some z → ∀ w1, Gr w w1 → Calls Tryd.prog 23 #[.pointer q, .int .i64 lv, .int .i64 z] w1 fun e w' => e = .returned (.tuple #[by32 (if ok i then (D i).1 else Z32), .int .i64 (if ok i then 0 else 1)]) ∧ Gr w1 w'
def digs (D : Nat → Nm) (i : Nat) : List Nm := (List.range i).map D
theorem digs_succ (D : Nat → Nm) (i : Nat) : digs D (i + 1) = digs D i ++ [D i] := by unfold digs; rw [List.range_succ, List.map_append]; rfl
theorem digs_length (D : Nat → Nm) (i : Nat) : (digs D i).length = i := by simp [digs]
/-- The loop. -/
def TellR (n : Nat) (ok : Nat → Bool) (D : Nat → Nm) (w0 : World) (v k : Value) (w : World) : Prop := ∃ (i : Nat) (A : Option Addr) (c : Nat), i ≤ n ∧ (∀ j, j < i → ok j = true) ∧ v = .slice A i c ∧ k = .int .i64 (i : Int) ∧ w.ownsRow w0.heap.size 43 32 (.slice A i c) i ((digs D i).flatMap encN) ∧ Gr w0 w
theorem TellR.out {n : Nat} {ok : Nat → Bool} {D : Nat → Nm} {w0 : World} {v k : Value} {w : World} (h : TellR n ok D w0 v k w) : ∃ (i : Nat) (A : Option Addr) (c : Nat), i ≤ n ∧ (∀ j, j < i → ok j = true) ∧ v = .slice A i c ∧ k = .int .i64 (i : Int) ∧ w.ownsRow w0.heap.size 43 32 (.slice A i c) i ((digs D i).flatMap encN) ∧ Gr w0 w := h
/-- What Tell answers. -/
def TellQ (n : Nat) (ok : Nat → Bool) (D : Nat → Nm) (w : World) (e : Ending) (w' : World) : Prop :=
  ((∀ j, j < n → ok j = true) ∧ (∃ A c, e = .returned (.tuple #[.slice A n c, .int .i64 0]) ∧ w'.ownsRow w.heap.size 43 32 (.slice A n c) n ((digs D n).flatMap encN)) ∧ Gr w w') ∨
  ((∃ j, j < n ∧ ok j = false) ∧ e = .returned (.tuple #[.slice none 0 0, .int .i64 1]) ∧ Gr w w')
def dgT : Nat → Obj → Bool := fun _ o => match o with | .cells _ t _ => t == 43 | _ => false
set_option maxRecDepth 100000 in
set_option maxHeartbeats 8000000 in
theorem tell_any {w : World} {q : Option Addr} {lv : Int} {zs : List Int} {ok : Nat → Bool} {D : Nat → Nm} {A : Option Addr} {n c : Nat} (hc : NodeQ q lv zs ok D w) (hz : Rd w A n (zs.map fun z => Value.int .i64 z)) (hn : n ≤ 100000) :
    Calls Tryd.prog 13 #[.pointer q, .int .i64 lv, .slice A n c] w fun e w' => TellQ n ok D w e w' := by
  obtain ⟨i0, z0, hi0, hz0, hz1, hz2, hz3⟩ := infoDg_parts
  have HC : Hid (NodeQ q lv zs ok D w) := Lib.hid hc
  have HZ := Lib.hid hz
  have hzl : zs.length = n := by have := hz.1; rwa [List.length_map] at this
  have HL := Lib.hid hzl
  clear hc hz hzl
  go_enter Tryd.func13, Tryd.ntmps13
  go_upto_region 3 with fail
  go_loopw [8, 15] (fun v k wr => TellR n ok D w v k wr) (fun _ k _ => n - (intOf k).toNat)
  case atStart => exact ⟨0, none, 0, by omega, fun j hj => absurd hj (by omega), rfl, rfl, ⟨rfl, .inl ⟨rfl, rfl⟩⟩, Gr.refl _⟩
  case round =>
    obtain ⟨i, A2, c2, hi, hok, rfl, rfl, ho, hG⟩ := TellR.out hrel
    have HOK := Lib.hid hok
    clear hrel hok
    by_cases hlt : i < n
    · obtain ⟨z, hz⟩ : ∃ z, zs[i]? = some z := ⟨_, List.getElem?_eq_getElem (by rw [HL.out]; exact hlt)⟩
      obtain ⟨ad, rfl, hcz⟩ := HZ.out.2 i (.int .i64 z) (by rw [List.getElem?_map, hz]; rfl)
      have kz : wr.cell? (ad.add i) = some (.int .i64 z) := Gr.cell hG hcz
      have hci : (i : Int) < (n : Int) := by omega
      have hNode := HC.out i z hz wr hG
      have hBr : w.heap.size ≤ wr.heap.size := hG.size
      clear hcz hz
      cases hoi : ok i with
      | true =>
        rw [hoi] at hNode
        simp only [if_true] at hNode
        obtain ⟨d, hd⟩ : ∃ d, d = D i := ⟨_, rfl⟩
        rw [← hd] at hNode
        have hdl := d.2
        have HNode := Lib.hid hNode
        have HE : Hid (∀ A3 c3 w3, w3.ownsRow w.heap.size 43 32 (.slice A3 (i + 1) c3) (i + 1) ((digs D i).flatMap encN ++ u8s d.1) → Gr w w3 → TellR n ok D w (.slice A3 (i + 1) c3) (.int .i64 ((i : Int) + 1)) w3) := Lib.hid (fun A3 c3 w3 h3 hG3 => by
          refine ⟨i + 1, A3, c3, by omega, fun j hj => ?_, rfl, by simp, ?_, hG3⟩
          · rcases Nat.lt_or_ge j i with h | h
            · exact HOK.out j h
            · have : j = i := by omega
              rw [this]; exact hoi
          · rw [digs_succ, List.flatMap_append, List.flatMap_singleton, ← hd]
            exact h3)
        clear hNode hd hoi
        go_upto_region 6 with first
          | (go_at_call 23; refine HNode.out.mono ?_; rintro e w1 ⟨rfl, hG1⟩)
          | (refine wpList_new (w := w1) (t := 43) rfl _ _ _ rfl w1.heap.size (u8s d.1) rfl rfl rfl (by rw [u8s_length, hdl]; kernel_rfl) (infoD d.1 hdl) (u8s_oneCell _) ?_; intro w2 hA2 hG2)
        have hGr2 := hG1.trans hG2
        obtain ⟨g11, hg11⟩ : ∃ g, g = w1.heap.size := ⟨_, rfl⟩
        rw [← hg11] at hA2 ⊢
        have ho2 := Gr.own (Gr.alloc w2 (.cells (u8s d.1).toArray 43)) (Gr.own hGr2 ho)
        have hAn : Arr (w2.alloc (.cells (u8s d.1).toArray 43)) w2.heap.size 43 (u8s d.1) := Arr.newAt rfl rfl
        have hG3 := hG.trans (hGr2.trans (Gr.alloc w2 (.cells (u8s d.1).toArray 43)))
        have hBn : w.heap.size ≤ (w2.alloc (.cells (u8s d.1).toArray 43)).heap.size := hG3.size
        clear hg11 hG1 hG2 hGr2 ho hG HNode
        go_wp2_with first
          | (refine wpList_loadW rfl 43 (.tmp 11) rfl rfl hA2 ⟨_, _, Tryd.underlying43⟩ (infoD d.1 hdl) ?_)
          | (refine wpList_valW rfl (.slice (some ⟨w2.heap.size, 0, none⟩) 1 1) _ (run_buildDg (x := .tmp 30) hdl rfl) ?_)
          | (at_builtin; go_must (refine wpList_appT rfl (.tmp 29) (.tmp 31) 38 rfl w.heap.size 43 i0 z0 32 32 Tryd.underlying38 hi0 hz0 hz1 hz2 hz3 (by omega) rfl ho2 ⟨w2.heap.size, 0, none⟩ 1 1 (u8s d.1) rfl (by rw [u8s_length, hdl]) (fun j u h => by rw [add_row, Nat.zero_add]; exact hAn.cell h) (u8s_oneCell _) (by unfold maxLen; omega) (by omega) hBn ?_; intro A3 c3 w3 h3 _ hT3; have hR3 := HE.out A3 c3 w3 h3 (Below.trans hG3 ((hT3 dgT (fun _ _ _ => by simp [dgT])).below hBn)); clear h3 hT3))
        exact ⟨hR3, by simp only [intOf]; omega⟩
      | false =>
        rw [hoi] at hNode
        simp only [Bool.false_eq_true, if_false] at hNode
        have HNode := Lib.hid hNode
        have HX : Hid (∃ j, j < n ∧ ok j = false) := Lib.hid ⟨i, hlt, hoi⟩
        clear hNode hoi
        go_wp2_with first
          | (go_at_call 23; refine HNode.out.mono ?_; rintro e w1 ⟨rfl, hG1⟩)
          | (refine wpList_new (w := w1) (t := 43) rfl _ _ _ rfl w1.heap.size (u8s Z32) rfl rfl rfl (by kernel_rfl) (infoD Z32 rfl) (u8s_oneCell _) ?_; intro w2 hA2 hG2)
        refine bodyPost_ret (results_tmp2 rfl _ _ _) rfl ?_
        exact .inr ⟨HX.out, rfl, hG.trans (hG1.trans hG2)⟩
    · obtain rfl : n = i := by omega
      have hci : ¬ (n : Int) < (n : Int) := by omega
      go_wp2_with fail
      refine bodyPost_ret (results_tmp2 rfl _ _ _) rfl ?_
      exact .inl ⟨HOK.out, ⟨A2, c2, rfl, ho⟩, hG⟩
end Go.Proofs.YthpgldfjcancjaaDoor
