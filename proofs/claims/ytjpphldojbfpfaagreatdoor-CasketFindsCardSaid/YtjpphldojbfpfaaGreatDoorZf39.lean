/- Texts of one proof, laid as one: part 39. No condition. -/
import Derived.Test.YtjpphldojbfpfaaGreatDoorZf02
import Derived.Test.YtjpphldojbfpfaaGreatDoorZf05
import Derived.Test.YtjpphldojbfpfaaGreatDoorZf30
import Derived.Test.YtjpphldojbfpfaaGreatDoorZf31
import Derived.Test.YtjpphldojbfpfaaGreatDoorZf35
import Derived.Test.YtjpphldojbfpfaaGreatDoorZf36
import Derived.Test.YtjpphldojbfpfaaGreatDoorZf37
import Derived.Test.YtjpphldojbfpfaaGreatDoorZf38
namespace Go.Proofs.YtjpphldojbfpfaaGreatDoor
open Go.RowKit
set_option maxRecDepth 100000 in
set_option maxHeartbeats 4000000 in
theorem nm1_any {x : Nam} {g : Nat} {w : World} (hg : w.cell? ⟨g, 0, none⟩ = some (.int .i64 x.z)) :
    Calls Tryz.prog 95 #[.agg (nameC x).toArray, .pointer (some ⟨g, 0, none⟩)] w fun e w' => e = .returned (.bool false) ∧ Gr w w' := by
  have hA := (Arr.newAt rfl rfl : Arr (w.alloc (.cells (nameC x).toArray 69)) w.heap.size 69 (nameC x)); have c0 := hA.cell (i := 0) (v := .int .i64 x.z) rfl; have hG : Gr w (w.alloc (.cells (nameC x).toArray 69)) := Gr.alloc _ _; have cg := Gr.cell hG hg; obtain ⟨C, hC⟩ : ∃ C, C = nameC x := ⟨_, rfl⟩; obtain ⟨z, hz⟩ : ∃ z, z = x.z := ⟨_, rfl⟩; rw [← hC] at c0 hG cg ⊢; rw [← hz] at c0 cg; clear hA hC hz hg
  go_enter Tryz.func95, Tryz.ntmps95
  go_upto_region 1 with fail
  change Code.wp _ _ _ _ (w.alloc (.cells C.toArray 69)); generalize w.alloc (.cells C.toArray 69) = w0 at c0 cg hG ⊢; generalize w.heap.size = g1 at c0 ⊢; go_wp2_with fail
  go_ret
  exact ⟨rfl, hG⟩
def IdxNR (n : Nat) (w : World) (i : Value) (wr : World) : Prop := ∃ k : Nat, k ≤ n ∧ i = .int .i64 (k : Int) ∧ Gr w wr
set_option maxRecDepth 100000 in
set_option maxHeartbeats 4000000 in
theorem indexN_all {g : Nat} {z : Int} {L : List Nam} {A : Option Addr} {n c : Nat} {w : World} (hL : NmsR w A n L) (hg : w.cell? ⟨g, 0, none⟩ = some (.int .i64 z)) (hz : ∀ x ∈ L, x.z = z) (hn : n ≤ 1000000) :
    Calls Tryz.prog 130 #[.slice A n c, .func (.func 95) #[] #[.pointer (some ⟨g, 0, none⟩)]] w fun e w' => e = .returned (.int .i64 (-1)) ∧ Gr w w' := by
  have HL := Lib.hid hL; have HLen := Lib.hid hL.1; have HG := Lib.hid hg; have HZ := Lib.hid hz; have HE : Hid (∀ args w, (callFunc 95 args).run Tryz.prog w = .ok (.enter 95 args) w) := Lib.hid (enters_of Tryz.func95 (by kernel_rfl) rfl); clear hL hg hz
  go_enter Tryz.func130, Tryz.ntmps130
  go_wp2_with fail
  go_simp
  go_loopw [8] (fun i wr => IdxNR n w i wr) (fun i _ => n - (intOf i).toNat)
  case atStart => exact ⟨0, Nat.zero_le _, rfl, Gr.refl _⟩
  case round =>
    obtain ⟨k, hk, rfl, hGr⟩ := hrel
    by_cases hlt : k < n
    · have hki : (k : Int) < (n : Int) := by omega
      obtain ⟨x, hx⟩ : ∃ x, L[k]? = some x := ⟨_, List.getElem?_eq_getElem (by rw [HLen.out]; exact hlt)⟩; obtain ⟨bA, oA, rfl, hr⟩ := (HL.out.gr hGr).2 k x hx; have HI := Lib.hid (infoName x); have hP := nm1_any (x := x) (g := g) (w := wr) (by rw [HZ.out x (List.mem_of_getElem? hx)]; exact Gr.cell hGr HG.out); have HP := Lib.hid hP; clear hx hP
      go_wp2_with (refine wpList_loadT rfl 69 (.tmp 14) rfl bA (oA + k * 33) (by kernel_rfl) (nameC x) hr Tryz.underlying69 rfl HI.out ?_)
      try rw [HE.out]
      refine HP.out.mono ?_; rintro e w2 ⟨rfl, hG2⟩; go_wp2_with fail
      exact ⟨⟨k + 1, hlt, by go_num, hGr.trans hG2⟩, by simp [intOf]; omega⟩
    · have hki : ¬ (k : Int) < (n : Int) := by omega
      go_wp2_with fail
      go_ret
      exact ⟨rfl, hGr⟩
set_option maxRecDepth 100000 in
set_option maxHeartbeats 4000000 in
theorem deleteN_all {g : Nat} {z : Int} {L : List Nam} {A : Option Addr} {n c : Nat} {w : World} (hL : NmsR w A n L) (hg : w.cell? ⟨g, 0, none⟩ = some (.int .i64 z)) (hz : ∀ x ∈ L, x.z = z) (hn : n ≤ 1000000) :
    Calls Tryz.prog 94 #[.slice A n c, .func (.func 95) #[] #[.pointer (some ⟨g, 0, none⟩)]] w fun e w' => e = .returned (.slice A n c) ∧ Gr w w' := by
  have HI := Lib.hid (indexN_all (c := c) hL hg hz hn); clear hL hg hz
  go_enter Tryz.func94, Tryz.ntmps94
  go_wp2_with (go_at_call 130; refine HI.out.mono ?_; rintro e w2 ⟨rfl, hG2⟩)
  go_ret
  exact ⟨rfl, hG2⟩
def NamesQ (M : Nam → Option SlA) (n : Nat) (w : World) (e : Ending) (w' : World) : Prop := ∃ (A : Option Addr) (k c : Nat) (L : List Nam), e = .returned (.slice A k c) ∧ L.Nodup ∧ (∀ x, x ∈ L ↔ (M x).isSome = true) ∧ k ≤ n ∧ NmsR w' A k L ∧ Gr w w'
set_option maxRecDepth 100000 in
set_option maxHeartbeats 8000000 in
theorem names_own {sh lg mp n : Nat} {M : Nam → Option SlA} {w : World} (hS : Arr w sh 66 (shC lg mp)) (hM : SM w mp n M) (hz : ∀ x, (M x).isSome = true → x.z = -1) (hn : n ≤ 100000) :
    Calls Tryz.prog 45 #[.pointer (some ⟨sh, 0, none⟩), .int .i64 (-1)] w fun e w' => NamesQ M n w e w' := by
  obtain ⟨D0, hD, hat⟩ := hM.own; have hsz := hD.size_le; have hG0 : Gr w (w.alloc (.cells #[.int .i64 (-1)] 3)) := Gr.alloc _ _; have cT : (w.alloc (.cells #[.int .i64 (-1)] 3)).cell? ⟨w.heap.size, 0, none⟩ = some (.int .i64 (-1)) := (Arr.newAt rfl rfl : Arr (w.alloc (.cells #[.int .i64 (-1)] 3)) w.heap.size 3 [.int .i64 (-1)]).cell rfl; have cM := Gr.cell hG0 (hS.cell (i := 1) (v := .map (some mp)) rfl)
  have HD : Hid (∀ w1, Gr w w1 → w1.ownsMap Tryz.prog 69 RSl mp n D0) := Lib.hid (fun w1 g => by
    have hbl := hD.lt; obtain ⟨es, clock, hb, Ft, hs, hD⟩ := hD; exact ⟨es, clock, (g.block mp hbl).trans hb, Ft, hs, hD⟩)
  have HH : Hid (∀ x, Maps.has D0 (nLit x) = (M x).isSome) := Lib.hid (fun x => SM.has hat x); have HZ := Lib.hid hz; have HSz := Lib.hid hsz; have HSk := Lib.hid skeysNew_any; clear hS hM hz hD hat hsz
  go_enter Tryz.func45, Tryz.ntmps45
  go_upto_region 1 with fail
  change Code.wp _ _ _ _ (w.alloc (.cells #[.int .i64 (-1)] 3)); generalize w.alloc (.cells #[.int .i64 (-1)] 3) = w0 at hG0 cT cM ⊢; generalize w.heap.size = g3 at cT ⊢; have hcK : (w0.alloc (.cells #[.map (some mp)] 64)).cell? ⟨w0.heap.size, 0, none⟩ = some (.map (some mp)) := (Arr.newAt rfl rfl : Arr (w0.alloc (.cells #[.map (some mp)] 64)) w0.heap.size 64 [.map (some mp)]).cell rfl; have hG1 : Gr w (w0.alloc (.cells #[.map (some mp)] 64)) := hG0.trans (Gr.alloc _ _); have cT1 := Gr.cell (Gr.alloc w0 (.cells #[.map (some mp)] 64)) cT; have HS := Lib.hid (sortedNm_any (b := mp) (nn := n) (D0 := D0) (by have := HSz.out; omega) hcK (HD.out _ hG1)); clear hcK
  go_upto_region 2 with first
    | (go_at_call 92; refine (HSk.out _ _).mono ?_; rintro e w1 ⟨rfl, rfl⟩)
    | (go_at_call 91; refine HS.out.mono ?_; rintro e w2 ⟨A2, k2, c2, L, rfl, hC, _, hk2, hL2, hG2⟩)
  have hmem : ∀ x, x ∈ L ↔ (M x).isSome = true := fun x => by rw [hC.2 x, HH.out]; simp
  have HMem := Lib.hid hmem; have HNd := Lib.hid hC.1; have hk : k2 ≤ n := Nat.le_trans hk2 HSz.out; have HDel := Lib.hid (deleteN_all (c := c2) hL2 (Gr.cell hG2 cT1) (fun x hx => HZ.out x ((hmem x).1 hx)) (by omega)); have HL2 := Lib.hid hL2; clear hC hmem hL2 hk2 cT cM HS
  go_wp2_with (go_at_call 94; refine HDel.out.mono ?_; rintro e w3 ⟨rfl, hG3⟩)
  go_ret
  exact ⟨A2, k2, c2, L, rfl, HNd.out, HMem.out, hk, HL2.out.gr hG3, (hG1.trans hG2).trans hG3⟩
theorem infoBd : (Tryz.prog.info? 36).map (fun i => (i.size, i.bytes, i.zero.map (·.cells.size))) = some (32, 32, some 32) := by kernel_rfl
theorem infoBd_parts : ∃ i z, Tryz.prog.info? 36 = some i ∧ i.zero = some z ∧ i.size = 32 ∧ i.bytes = 32 ∧ z.cells.size = 32 := by
  cases hie : Tryz.prog.info? 36 with
  | none => have := infoBd; rw [hie] at this; cases this
  | some ie =>
    have hq := infoBd; rw [hie] at hq; simp only [Option.map_some, Option.some.injEq, Prod.mk.injEq] at hq; obtain ⟨q1, q2, q3⟩ := hq; cases hz : ie.zero with
    | none => rw [hz] at q3; cases q3
    | some z =>
      rw [hz] at q3; exact ⟨ie, z, rfl, hz, q1, q2, by simpa using q3⟩
section
variable {ev : Operand → Value} {d : Option Tmp} {t : TypeId} {p : String} {af : Array Edge} {gd : Option (Nat × Bool)} {w : World} {x : Operand}
set_option maxRecDepth 100000 in
theorem run_buildBd {X : List UInt8} (hX : X.length = 32) (h1 : ev x = .agg (u8s X).toArray) :
    (execOp ev ⟨d, .buildSlice 83 1 #[(0, x)], t, p, af, gd⟩).run Tryz.prog w = .ok (.value (.slice (some ⟨w.heap.size, 0, none⟩) 1 1)) (w.alloc (.cells (u8s X).toArray 36)) := by
  obtain ⟨ie, z, hie, hz, q1, _, q3⟩ := infoBd_parts
  have hf : ∀ C : Array Value, C.size = 32 → Instr.fill (fun i => some (i * ie.size, ie.size)) C [(0, .agg (u8s X).toArray)] = some (u8s X).toArray := by
    intro C hC; rw [fill_step (fun i => some (i * ie.size, ie.size)) C 0 (.agg (u8s X).toArray) (u8s X) 0 (by simp [q1, hX]) rfl [] (by simp [hX, hC])]; simp only [Instr.fill]; rw [List.drop_of_length_le (by simp [hX, hC])]; simp
  have h := run_buildSlice (P := Tryz.prog) w 83 36 1 #[(0, .agg (u8s X).toArray)] (u8s X).toArray ie z Tryz.underlying83 hie hz (by rw [q1]; omega) (by rw [q1]; omega) (hf _ (by simp [q1])); simp only [execOp, List.map_toArray, List.map_cons, List.map_nil, h1, Sem.run_bind, h, Result.andThen_ok, Sem.run_pure]
end
def bdT : Nat → Obj → Bool := fun _ o => match o with | .cells _ t _ => t == 36 | _ => false
def KeysSQ (M : Nam → Option SlA) (n : Nat) (w : World) (e : Ending) (w' : World) : Prop := ∃ (A : Option Addr) (k c : Nat) (L : List Nm), e = .returned (.slice A k c) ∧ L.Nodup ∧ (∀ x, x ∈ L ↔ (M (ownN x)).isSome = true) ∧ k ≤ n ∧ L.length = k ∧ w'.ownsRow w.heap.size 36 32 (.slice A k c) k (L.flatMap encN) ∧ Gr w w'
structure KeysSR (L : List Nam) (k : Nat) (w0 : World) (v i : Value) (wr : World) : Prop where
  ex : ∃ (j : Nat) (A : Option Addr) (c : Nat), j ≤ k ∧ i = .int .i64 (j : Int) ∧ v = .slice A j c ∧ wr.ownsRow w0.heap.size 36 32 (.slice A j c) j (((L.take j).map (·.k)).flatMap encN) ∧ Gr w0 wr
theorem name_key {w : World} {b o : Nat} {x : Nam} (h : w.rangeAt b o (nameC x)) : w.rangeAt b (o + 1) (u8s x.k.1) := fun j u hu => by
  have := h (j + 1) u (by simpa [nameC] using hu); rw [show o + 1 + j = o + (j + 1) by omega]; exact this
set_option maxRecDepth 100000 in
set_option maxHeartbeats 8000000 in
theorem skeys_own {sh lg mp n : Nat} {M : Nam → Option SlA} {w : World} (hS : Arr w sh 66 (shC lg mp)) (hM : SM w mp n M) (hz : ∀ x, (M x).isSome = true → x.z = -1) (hn : n ≤ 100000) :
    Calls Tryz.prog 21 #[.pointer (some ⟨sh, 0, none⟩)] w fun e w' => KeysSQ M n w e w' := by
  obtain ⟨i0, z0, hi0, hz0, hz1, hz2, hz3⟩ := infoBd_parts; have HN := Lib.hid (names_own hS hM hz hn); have HZ := Lib.hid hz; clear hS hM hz
  go_enter Tryz.func21, Tryz.ntmps21
  go_upto_region 5 with (go_at_call 45; refine HN.out.mono ?_; rintro e w2 ⟨A2, k, c2, L, rfl, hNd, hmem, hk, hL2, hG2⟩)
  have HNd := Lib.hid hNd; have HMem := Lib.hid hmem; have HL2 := Lib.hid hL2; have HLen := Lib.hid hL2.1; clear hNd hmem hL2 HN; go_simp
  go_loopw [3, 11] (fun v i wr => KeysSR L k w2 v i wr) (fun _ i _ => k - (intOf i).toNat)
  case atStart => exact ⟨0, none, 0, by omega, rfl, rfl, ⟨rfl, .inl ⟨rfl, rfl⟩⟩, Gr.refl _⟩
  case round =>
    obtain ⟨j, A3, c3, hj, rfl, rfl, ho, hG3⟩ := hrel.ex; clear hrel
    by_cases hlt : j < k
    · have hji : (j : Int) < (k : Int) := by omega
      obtain ⟨x, hx⟩ : ∃ x, L[j]? = some x := ⟨_, List.getElem?_eq_getElem (by rw [HLen.out]; exact hlt)⟩; obtain ⟨bA, oA, rfl, hr⟩ := (HL2.out.gr hG3).2 j x hx
      have htk : (L.take (j + 1)).map (·.k) = (L.take j).map (·.k) ++ [x.k] := by
        rw [List.take_add_one, hx, List.map_append]; rfl
      have HT := Lib.hid htk; have HI := Lib.hid (infoName x); have hkl := x.k.2; clear hx htk
      go_upto_region 7 with first
        | (refine wpList_loadT rfl 69 (.tmp 13) rfl bA (oA + j * 33) (by kernel_rfl) (nameC x) hr Tryz.underlying69 rfl HI.out ?_)
        | (refine wpList_new (w := wr) (t := 69) rfl _ _ _ rfl wr.heap.size (nameC x) rfl rfl rfl (by rw [nameC_len]; rfl) HI.out (nameC_one x) ?_; intro w4 hA4 hG4)
      have hr4 := name_key (Arr.range hA4); have hG34 := hG3.trans hG4; have hAn : Arr (w4.alloc (.cells (u8s x.k.1).toArray 36)) w4.heap.size 36 (u8s x.k.1) := Arr.newAt rfl rfl; have ho4 := Gr.own (Gr.alloc w4 (.cells (u8s x.k.1).toArray 36)) (Gr.own hG4 ho); have hG5 := hG34.trans (Gr.alloc w4 (.cells (u8s x.k.1).toArray 36)); have hBn : w2.heap.size ≤ (w4.alloc (.cells (u8s x.k.1).toArray 36)).heap.size := hG5.size; generalize wr.heap.size = g5 at hr4 ⊢; obtain ⟨K, hK⟩ : ∃ K, K = x.k.1 := ⟨_, rfl⟩; rw [← hK] at hr4 hAn ho4 hG5 hBn hkl; have HK := Lib.hid hK; clear hA4 hG3 hG4 hG34 ho hr hK
      go_wp2_with first
        | (refine wpList_load_mid rfl _ _ rfl g5 (0 + 1) rfl (u8s K) _ hr4 Tryz.underlying36 rfl (by rw [u8s_length, hkl]; kernel_rfl) ?_)
        | (refine wpList_valW rfl (.slice (some ⟨w4.heap.size, 0, none⟩) 1 1) _ (run_buildBd (x := .tmp 17) hkl rfl) ?_)
        | (at_builtin; go_must (refine wpList_appT rfl (.tmp 15) (.tmp 18) 83 rfl w2.heap.size 36 i0 z0 32 32 Tryz.underlying83 hi0 hz0 hz1 hz2 hz3 (by omega) rfl ho4 ⟨w4.heap.size, 0, none⟩ 1 1 (u8s K) rfl (by rw [u8s_length, hkl]) (fun j u h => by rw [add_row, Nat.zero_add]; exact hAn.cell h) (u8s_oneCell _) (by unfold maxLen; omega) (by omega) hBn ?_; intro A6 c6 w6 h6 _ hT6; have hG6 : Gr w2 w6 := Below.trans hG5 ((hT6 bdT (fun _ _ _ => by simp [bdT])).below hBn); clear hT6))
      have HR : Hid (KeysSR L k w2 (.slice A6 (j + 1) c6) (.int .i64 ((j + 1 : Nat) : Int)) w6) := Lib.hid ⟨j + 1, A6, c6, hlt, rfl, rfl, by rw [HT.out, List.flatMap_append, List.flatMap_singleton]; rw [HK.out] at h6; exact h6, hG6⟩; clear h6 hG6 ho4 hAn hr4 hG5 hBn; go_wp2_with fail
      exact ⟨by rw [show (j : Int) + 1 = ((j + 1 : Nat) : Int) by omega]; exact HR.out, by simp [intOf]; omega⟩
    · obtain rfl : j = k := by omega
      have hji : ¬ (j : Int) < (j : Int) := by omega
      rw [List.take_of_length_le (by rw [HLen.out]; omega)] at ho; have HO := Lib.hid (own_base ho hG2.size)
      have HNd2 : Hid ((L.map (·.k)).Nodup) := Lib.hid (by
        rw [List.nodup_iff_pairwise_ne, List.pairwise_map]; refine (List.nodup_iff_pairwise_ne.1 HNd.out).imp_of_mem fun {a b} ha hb hne e => hne (Nam.ext' ?_ e); rw [HZ.out a ((HMem.out a).1 ha), HZ.out b ((HMem.out b).1 hb)])
      have HMem2 : Hid (∀ y : Nm, y ∈ L.map (·.k) ↔ (M (ownN y)).isSome = true) := Lib.hid (fun y => by
        rw [List.mem_map]; refine ⟨fun ⟨x, hx, e⟩ => ?_, fun h => ⟨ownN y, (HMem.out _).2 h, rfl⟩⟩; have h1 := (HMem.out x).1 hx
        rwa [show ownN y = x from Nam.ext' (HZ.out x h1).symm e.symm])
      clear ho; go_wp2_with fail
      go_ret
      exact ⟨A3, j, c3, L.map (·.k), rfl, HNd2.out, HMem2.out, hk, by rw [List.length_map]; exact HLen.out, HO.out, hG2.trans hG3⟩
end Go.Proofs.YtjpphldojbfpfaaGreatDoor
namespace Go.Proofs.YtjpphldojbfpfaaGreatDoor
open Go.RowKit
def CopQ (V : List KV) (w : World) (e : Ending) (w' : World) : Prop := ∃ (A : Option Addr) (n c : Nat) (L : List SibV), e = .returned (.slice A n c) ∧ SibsR w' A n L ∧ L.map keyV = V ∧ Gr w w'
def CopV (V : List KV) (v : Value) (w : World) : Prop := ∃ (A : Option Addr) (n c : Nat) (L : List SibV), v = .slice A n c ∧ SibsR w A n L ∧ L.map keyV = V
theorem CopV.gr {V : List KV} {v : Value} {w w' : World} (h : CopV V v w) (hG : Gr w w') : CopV V v w' := by
  obtain ⟨A, n, c, L, e, h1, h2⟩ := h; exact ⟨A, n, c, L, e, h1.gr hG, h2⟩
set_option maxRecDepth 100000 in
set_option maxHeartbeats 4000000 in
theorem scopied_any {A : Option Addr} {n c : Nat} {L : List SibV} {w : World} (hL : SibsR w A n L) (hg : GoodL L) (hn : n ≤ 64) : Calls Tryz.prog 47 #[.slice A n c] w fun e w' => CopQ (L.map keyV) w e w' := by
  have HM := Lib.hid (merge_any (c1 := 0) (c2 := c) (SibsR.nil w none) hL ⟨Nat.zero_le _, List.Pairwise.nil, fun x h => by cases h⟩ hg (by omega)); have HN := Lib.hid (fun (L' : List SibV) h => mergeOf_nil (L' := L') hg h); clear hL hg hn
  go_enter Tryz.func47, Tryz.ntmps47
  go_wp2_with (go_at_call 31; refine HM.out.mono ?_; rintro e w2 ⟨A2, n2, c2, L2, rfl, hS2, hM2, _, hG2⟩; have HS2 := Lib.hid hS2; have HK2 := Lib.hid (HN.out L2 hM2); clear hS2 hM2)
  go_ret
  exact ⟨A2, n2, c2, L2, rfl, HS2.out, HK2.out, hG2⟩
structure ShelfR (w : World) (sh lg mp n : Nat) (M : Nam → Option SlA) (V : Nm → List KV) : Prop where
  shelf : Arr w sh 66 (shC lg mp)
  map : SM w mp n M
  sets : SetsIs (fun _ => False) w M V
  good : ∀ k L0, L0.map keyV = V k → GoodL L0 ∧ L0.length ≤ 32
theorem ShelfR.gr {w w' : World} {sh lg mp n : Nat} {M : Nam → Option SlA} {V : Nm → List KV} (h : ShelfR w sh lg mp n M V) (hG : Gr w w') : ShelfR w' sh lg mp n M V := ⟨h.shelf.gr hG, h.map.gr hG, h.sets.gr hG, h.good⟩
theorem ShelfIs.read {X : Nat → Prop} {w : World} {D : Dk} {sh lg mp t n : Nat} {R : List (Nm × List SibV)} (h : ShelfIs X w D sh lg mp t n R) : ∃ M, ShelfR w sh lg mp n M (lastV R) := by
  obtain ⟨M, hM, h1, h2⟩ := h.map; refine ⟨M, h.shelf, hM, ⟨h1, fun k => ?_⟩, fun k L0 e => lastV_good h.recs e⟩; have := h2 k; cases hm : M (ownN k) with
  | none => rw [hm] at this; exact this
  | some s =>
    rw [hm] at this; obtain ⟨g1, L, g2, g3, _⟩ := this; exact ⟨g1, L, g2, g3, fun _ _ q => q⟩
section
variable {ev : Operand → Value} {d : Option Tmp} {t : TypeId} {p : String} {af : Array Edge} {gd : Option (Nat × Bool)} {w : World} {x : Operand}
theorem run_buildNmV {k : Nm} (h1 : ev x = .agg (u8s k.1).toArray) (h0 : ev (.const (.int .i64 (-1))) = .int .i64 (-1)) :
    (execOp ev ⟨d, .build 69 #[(0, .const (.int .i64 (-1))), (1, x)], t, p, af, gd⟩).run Tryz.prog w = .ok (.value (nameV (ownN k))) w := by
  simp only [execOp, List.map_toArray, List.map_cons, List.map_nil, h1, h0, run_build w 69 #[(0, .int .i64 (-1)), (1, .agg (u8s k.1).toArray)] _ (built_name k), Sem.run_bind, Result.andThen_ok, Sem.run_pure]; rfl
end
set_option maxRecDepth 100000 in
set_option maxHeartbeats 8000000 in
theorem sget_any {sh lg mp n : Nat} {M : Nam → Option SlA} {V : Nm → List KV} {w : World} (h : ShelfR w sh lg mp n M V) (k : Nm) :
    Calls Tryz.prog 23 #[.pointer (some ⟨sh, 0, none⟩), .agg (u8s k.1).toArray] w fun e w' => CopQ (V k) w e w' := by
  obtain ⟨L0, hL0, hk0, _⟩ := h.sets.at k; obtain ⟨hg0, hn0⟩ := h.good k L0 hk0; have hlen := hL0.1; have hlk : ∀ w1, Gr w w1 → (Instr.lookup 64 (.map (some mp)) (nameV (ownN k)) false).run Tryz.prog w1 = .ok (slV ((M (ownN k)).getD (none, 0, 0))) w1 := fun w1 g => (h.map.gr g).look Tryz.underlying64 (by kernel_rfl) (ownN k); obtain ⟨s, hs⟩ : ∃ s, s = (M (ownN k)).getD (none, 0, 0) := ⟨_, rfl⟩; rw [← hs] at hL0 hlk hlen; rw [slV_ad] at hlk; have HLK := Lib.hid hlk; have HCp := Lib.hid (fun w1 (g : Gr w w1) => scopied_any (c := s.2.2) (hL0.gr g) hg0 (by omega)); rw [hk0] at HCp; have hA0 := h.shelf; have hK0 : Arr (w.alloc (.cells (u8s k.1).toArray 36)) w.heap.size 36 (u8s k.1) := Arr.newAt rfl rfl; have hG0 : Gr w (w.alloc (.cells (u8s k.1).toArray 36)) := Gr.alloc _ _; have cm := Gr.cell hG0 (hA0.cell (i := 1) (v := .map (some mp)) rfl); have hkl := k.2; have HIk := Lib.hid (show (Tryz.prog.info? 36).map (·.size) = some (u8s k.1).length by rw [u8s_length, hkl]; kernel_rfl); have HBd := Lib.hid (fun (ev : Operand → Value) d t p af gd w x h1 h0 => run_buildNmV (ev := ev) (d := d) (t := t) (p := p) (af := af) (gd := gd) (w := w) (x := x) (k := k) h1 h0); obtain ⟨N, hN⟩ : ∃ N, N = nameV (ownN k) := ⟨_, rfl⟩; rw [← hN] at HLK HBd; obtain ⟨K, hK⟩ : ∃ K, K = k.1 := ⟨_, rfl⟩; rw [← hK] at hK0 hG0 cm HIk HBd hkl ⊢; obtain ⟨U, hU⟩ : ∃ U, U = V k := ⟨_, rfl⟩; rw [← hU] at HCp ⊢; obtain ⟨A, hA⟩ : ∃ A, A = slAd s := ⟨_, rfl⟩; rw [← hA] at HCp HLK; obtain ⟨q, hq⟩ : ∃ q, q = s.2.1 := ⟨_, rfl⟩; rw [← hq] at HCp HLK; obtain ⟨c, hc⟩ : ∃ c, c = s.2.2 := ⟨_, rfl⟩; rw [← hc] at HCp HLK; clear hL0 hk0 hg0 hn0 hlen hlk hs h hA0 hN hK hU hA hq hc
  go_enter Tryz.func23, Tryz.ntmps23
  go_upto_region 3 with fail
  change Code.wp _ _ _ _ (w.alloc (.cells (u8s K).toArray 36)); generalize w.alloc (.cells (u8s K).toArray 36) = wB at hK0 hG0 cm ⊢; generalize w.heap.size = g3 at hK0 ⊢; refine wp_region_ssaL (by kernel_rfl) [IsV (.pointer (some ⟨sh, 0, none⟩)), IsV (.pointer (some ⟨sh, 0, none⟩)), IsV (.pointer (some ⟨sh, 1, none⟩)), IsV (.map (some mp)), IsV (.agg (u8s K).toArray), IsV (N), IsV (.slice A q c), CopV U, CopV U] (by kernel_rfl) ?_ ?_ ?_
  · intro φ hφ v w1 w2 h hg; simp only [List.mem_cons, List.not_mem_nil, or_false] at hφ; rcases hφ with rfl | rfl | rfl | rfl | rfl | rfl | rfl | rfl | rfl
    all_goals first | exact h | exact RdV.gr h hg | exact CopV.gr h hg
  · refine ⟨?_, ?_, ?_, ?_, ?_, ?_, ?_, ?_, ?_, trivial⟩
    · intro a1 w1 hG hF; exact s_old rfl (wants0 rfl) (.tmp 0) (.inr rfl) (.pointer (some ⟨sh, 0, none⟩)) (hF.ol 0 (by kernel_rfl)) rfl
    · intro a1 w1 hG hF; obtain ⟨_, e7, rfl⟩ := hF.dp 0 7 (by kernel_rfl); exact s_is rfl (wants0 rfl) _ rfl (run_nil e7)
    · intro a1 w1 hG hF; obtain ⟨_, e8, rfl⟩ := hF.dp 1 8 (by kernel_rfl); exact s_is rfl (wants0 rfl) _ rfl (run_fieldR (o := 1) (k := 0) Tryz.underlying66 rfl rfl (by kernel_rfl) e8)
    · intro a1 w1 hG hF; obtain ⟨_, e9, rfl⟩ := hF.dp 2 9 (by kernel_rfl); exact s_is rfl (wants0 rfl) _ rfl (run_load1B (.inr (.inl ⟨_, _, Tryz.underlying64⟩)) e9 (Gr.cell ((Gr.drew wB).trans hG) cm))
    · intro a1 w1 hG hF; have e3 : a1.eval (.tmp 3) = .pointer (some ⟨g3, 0, none⟩) := hF.ol 3 (by kernel_rfl); exact s_is rfl (wants0 rfl) _ rfl (run_loadArr ⟨_, _, Tryz.underlying36⟩ HIk.out e3 (hK0.gr ((Gr.drew wB).trans hG)))
    · intro a1 w1 hG hF; obtain ⟨_, e11, rfl⟩ := hF.dp 4 11 (by kernel_rfl); exact s_is rfl (wants0 rfl) _ rfl (HBd.out _ _ _ _ _ _ _ _ e11 rfl)
    · intro a1 w1 hG hF; obtain ⟨_, e10, rfl⟩ := hF.dp 3 10 (by kernel_rfl); obtain ⟨_, e12, rfl⟩ := hF.dp 5 12 (by kernel_rfl); exact s_is rfl (wants0 rfl) _ rfl (by simp only [execOp, e10, e12, HLK.out w1 (hG0.trans ((Gr.drew wB).trans hG)), Result.andThen_ok, Sem.run_bind, Sem.run_pure])
    · intro a1 w1 hG hF; obtain ⟨_, e13, rfl⟩ := hF.dp 6 13 (by kernel_rfl); exact s_call rfl (wants0 rfl) _ rfl _ _ (by simp only [execOp, resolve, invoke, List.map_toArray, List.map_cons, List.map_nil, e13]; go_simp) ((HCp.out w1 (hG0.trans ((Gr.drew wB).trans hG))).mono fun e w2 ⟨A8, n8, c8, L8, he, h1, h2, hb⟩ => ⟨_, he, ⟨A8, n8, c8, L8, rfl, h1, h2⟩, hb⟩)
    · intro a1 w1 hG hF; exact s_same rfl (wants0 rfl) (.tmp 14) (.inl rfl) (hF.dp 7 14 (by kernel_rfl))
  · intro vs w9 hG hf; have y4 : (CopV U) (vs 8) w9 := hf.2.2.2.2.2.2.2.2.1; clear hf; simp only [putAll, Nat.zero_add, Nat.reduceAdd]; clear hK0 cm; obtain ⟨A2, n2, c2, L2, e4, hS2, hk2⟩ := y4; rw [e4]; clear e4; have HS2 := Lib.hid hS2; have HK2 := Lib.hid hk2; have hGf : Gr w w9 := hG0.trans ((Gr.drew wB).trans hG); clear hS2 hk2 hG hG0 HLK HCp; go_simp; go_wp2_with fail
    go_ret
    exact ⟨A2, n2, c2, L2, rfl, HS2.out, HK2.out, hGf⟩
set_option maxRecDepth 100000 in
set_option maxHeartbeats 8000000 in
theorem sdigest_any {A : Option Addr} {n c : Nat} {L : List SibV} {w : World} (hL : SibsR w A n L) (hg : GoodL L) (hn : n ≤ 32) (gw : Glob w) :
    Calls Tryz.prog 22 #[.slice A n c] w fun e w' => e = .returned (.tuple #[.agg (u8s (digV (L.map keyV))).toArray, .int .i64 0]) ∧ Gr w w' := by
  have hle : (encSibs L).length ≤ 1000000 := by
    have := encSibs_le (L := L) (fun x hx => ⟨(hL.ok x hx).ctx, (hL.ok x hx).small⟩); have h1 := hL.1; omega
  have hdg : digV (L.map keyV) = shaL (encSibs L) := by
    rw [encSibs_keys]; rfl
  have hA0 : Arr (w.alloc (.cells (u8s Z32).toArray 35)) w.heap.size 35 (u8s Z32) := Arr.newAt rfl rfl; have hG0 : Gr w (w.alloc (.cells (u8s Z32).toArray 35)) := Gr.alloc _ _; have HW := Lib.hid (swrite_any (c := c) (hL.gr hG0) hg hn); obtain ⟨l, hl⟩ : ∃ l, l = encSibs L := ⟨_, rfl⟩; rw [← hl] at HW hle hdg; obtain ⟨D, hD⟩ : ∃ D, D = digV (L.map keyV) := ⟨_, rfl⟩; have HD : Hid (D = shaL l) := Lib.hid (hD.trans hdg); have hDl : D.length = 32 := by rw [HD.out]; exact shaL_length _
  rw [← hD]; clear hL hg hl hD hdg
  go_enter Tryz.func22, Tryz.ntmps22
  go_upto_region 1 with fail
  change Code.wp _ _ _ _ (w.alloc (.cells (u8s Z32).toArray 35)); obtain ⟨w0, hw0⟩ : ∃ w0, w0 = w.alloc (.cells (u8s Z32).toArray 35) := ⟨_, rfl⟩; rw [← hw0] at hA0 hG0 HW ⊢; clear hw0; obtain ⟨g2, hg2⟩ : ∃ g, g = w.heap.size := ⟨_, rfl⟩; rw [← hg2] at hA0; simp only [← hg2]; have hgw : w.heap.size ≤ g2 := Nat.le_of_eq hg2.symm; clear hg2
  go_upto_region 4 with (go_at_call 46; refine HW.out.mono ?_; rintro e w3 ⟨A3, c3, rfl, ho3, _, hG3⟩)
  have hr3 := Rd.of_own ho3; have hcc := own_cap ho3; have hGw3 := hG0.trans hG3; have hP := parts1 (w := w3) rfl 43 ⟨A3, l.length, c3, l⟩ hr3 hcc; have HS := Lib.hid (shaSum_any (some ⟨w3.heap.size, 0, none⟩) 1 1 [⟨A3, l.length, c3, l⟩] (by omega) l (by simp [allP]) hle _ hP (Glob.gr (hGw3.trans (Gr.alloc w3 _)) gw)); rw [← HD.out] at HS; have hG4 : Gr w3 (w3.alloc (.cells #[.slice A3 l.length c3] 43)) := Gr.alloc _ _; have hA4 := (hA0.gr hG3).gr hG4; have hGw4 := hGw3.trans hG4; have hul : (u8s D).length = 32 := by rw [u8s_length]; exact hDl
  have HID := Lib.hid (show (Tryz.prog.info? 35).map (·.size) = some (u8s D).length by rw [hul]; kernel_rfl); clear ho3 hr3 hcc hP hA0 hG3 HW hG0 hGw3
  go_wp2_with first
    | (go_at_call 19; refine HS.out.mono ?_; rintro e w5 ⟨rfl, hB5⟩; have hA5 := hA4.gr hB5; have hGw5 : Gr w w5 := hGw4.trans hB5)
    | (refine wpList_put hA5 rfl 35 (.tmp 2) (.tmp 17) rfl (u8s D) rfl rfl (by rw [hul]; rfl) HID.out (u8s_oneCell _) ?_; intro w6 hA6 hK6 _)
  refine bodyPost_ret (results_cell_tmp rfl _ _ g2 _ _ _ _ rfl hA6 Tryz.underlying35 rfl (by have := HID.out; simpa using this)) rfl ?_; exact ⟨rfl, Below.trans hGw5 (hK6.mono hgw)⟩
end Go.Proofs.YtjpphldojbfpfaaGreatDoor
namespace Go.Proofs.YtjpphldojbfpfaaGreatDoor
open Go.RowKit
def treeL (V : Nm → List KV) (ks : List Nm) : Rw := ks.foldl (fun T k => setR T k (digN (V k))) []
theorem treeL_take {V : Nm → List KV} {ks : List Nm} {j : Nat} {x : Nm} (h : ks[j]? = some x) : treeL V (ks.take (j + 1)) = setR (treeL V (ks.take j)) x (digN (V x)) := by
  unfold treeL; rw [List.take_add_one, h, List.foldl_append]; rfl
structure TrR (V : Nm → List KV) (ks : List Nm) (A : Option Addr) (k c g b : Nat) (w0 : World) (i : Value) (wr : World) : Prop where
  ex : ∃ j : Nat, j ≤ k ∧ i = .int .i64 (j : Int) ∧ TreeIs wr g b j (treeL V (ks.take j)) ∧ wr.ownsRow w0.heap.size 36 32 (.slice A k c) k (ks.flatMap encN) ∧ Gr w0 wr
def TreeQ (V : Nm → List KV) (w : World) (e : Ending) (w' : World) : Prop := ∃ g b m T, e = .returned (.pointer (some ⟨g, 0, none⟩)) ∧ TreeIs w' g b m T ∧ TreeOf V T ∧ w.heap.size ≤ g ∧ w.heap.size ≤ b ∧ Gr w w'
set_option maxRecDepth 100000 in
set_option maxHeartbeats 16000000 in
theorem tree_any {sh lg mp n : Nat} {M : Nam → Option SlA} {V : Nm → List KV} {w : World} (h : ShelfR w sh lg mp n M V) (hn : n ≤ 8000) (gw : Glob w) :
    Calls Tryz.prog 10 #[.pointer (some ⟨sh, 0, none⟩)] w fun e w' => TreeQ V w e w' := by
  have HH := Lib.hid h
  have hz : ∀ x, (M x).isSome = true → x.z = -1 := fun x hx => Classical.byContradiction fun e => by
    rw [h.sets.1 x e] at hx; cases hx
  have hV : ∀ x, (M (ownN x)).isSome = true ↔ V x ≠ [] := fun x => by
    have := h.sets.2 x; cases hm : M (ownN x) with
    | none => rw [hm] at this; simp only [this]; simp
    | some s => rw [hm] at this; simp only [Option.isSome_some, true_iff]; exact this.ne
  have HV := Lib.hid hV; have HK := Lib.hid (fun w1 (g : Gr w w1) => skeys_own (w := w1) (h.gr g).shelf (h.gr g).map hz (by omega)); have HGd := Lib.hid h.good; have HGw := Lib.hid gw; clear h hz hV gw
  go_enter Tryz.func10, Tryz.ntmps10
  go_upto_region 2 with (go_at_call 20; refine (new_is _).mono ?_; rintro e w1 ⟨g, b, rfl, hT1, hg1, hb1, hG1⟩)
  go_upto_region 4 with (go_at_call 21; refine (HK.out _ hG1).mono ?_; rintro e w2 ⟨A, k, c, ks, rfl, hNd, hmem, hk, hlen, ho2, hG2⟩)
  have hGw2 := hG1.trans hG2; have ho := own_base ho2 hG1.size; have HT2 := Lib.hid (hT1.gr hG2); have HLen := Lib.hid hlen; have HMem : Hid (∀ x, x ∈ ks ↔ V x ≠ []) := Lib.hid (fun x => (hmem x).trans (HV.out x)); have HO := Lib.hid ho; clear hNd hmem hlen ho2 ho hT1 hG1 hG2 HK; go_simp
  go_loopw [5] (fun i wr => TrR V ks A k c g b w i wr) (fun i _ => k - (intOf i).toNat)
  case atStart => exact ⟨0, Nat.zero_le _, rfl, by rw [List.take_zero]; exact HT2.out, HO.out, hGw2⟩
  case round =>
    obtain ⟨j, hj, rfl, hT, ho, hG⟩ := hrel.ex; clear hrel
    by_cases hlt : j < k
    · have hji : (j : Int) < (k : Int) := by omega
      obtain ⟨x, hx⟩ : ∃ x, ks[j]? = some x := ⟨_, List.getElem?_eq_getElem (by rw [HLen.out]; exact hlt)⟩; obtain ⟨gA, rfl⟩ := own_some ho (by omega); obtain ⟨gA2, e, hr⟩ := (nmr_own ho HLen.out).2 j x hx; obtain rfl : gA = gA2 := by injection e with e; injection e
      have hr : wr.rangeAt gA (j * 32) (u8s x.1) := hr; have hxl := x.2; have HSt := Lib.hid (treeL_take (V := V) hx); have HI := Lib.hid (show (Tryz.prog.info? 36).map (·.size) = some (u8s x.1).length by rw [u8s_length, hxl]; kernel_rfl); have HGet := Lib.hid (sget_any (HH.out.gr hG) x); have HT := Lib.hid hT; have HO := Lib.hid ho; have hDl := (digN (V x)).2
      have HDg : Hid (∀ w1 (A2 : Option Addr) n2 c2 L2, Gr w w1 → SibsR w1 A2 n2 L2 → L2.map keyV = V x → Calls Tryz.prog 22 #[.slice A2 n2 c2] w1 fun e w' => e = .returned (.tuple #[.agg (u8s (digN (V x)).1).toArray, .int .i64 0]) ∧ Gr w1 w') := Lib.hid (fun w1 A2 n2 c2 L2 g2 hS2 hk2 => by
        obtain ⟨q1, q2⟩ := HGd.out x L2 hk2; have hd := sdigest_any (c := c2) hS2 q1 (by rw [← hS2.1]; exact q2) (HGw.out.gr g2); rw [hk2] at hd; exact hd)
      obtain ⟨d, hd⟩ : ∃ d, d = digN (V x) := ⟨_, rfl⟩; rw [← hd] at HDg HSt hDl; clear hd hx e hT ho
      go_upto_region 7 with first
        | (refine wpList_load_mid rfl _ _ rfl gA (j * 32) (by kernel_rfl) (u8s x.1) _ hr Tryz.underlying36 rfl HI.out ?_)
        | (go_at_call 23; refine HGet.out.mono ?_; rintro e w3 ⟨A3, n3, c3, L3, rfl, hS3, hk3, hG3⟩; have HD3 := Lib.hid (HDg.out w3 A3 n3 c3 L3 (hG.trans hG3) hS3 hk3); clear hS3 hk3)
        | (go_at_call 22; refine HD3.out.mono ?_; rintro e w4 ⟨rfl, hG4⟩)
        | (refine wpList_new (w := w4) (t := 35) rfl _ _ _ rfl w4.heap.size (u8s d.1) rfl rfl rfl (by rw [u8s_length, hDl]; kernel_rfl) (infoD d.1 hDl) (u8s_oneCell _) ?_; intro w5 hA5 hG5)
      have hGr5 := (hG3.trans hG4).trans hG5; have hr5 := Gr.range hGr5 hr; have hG05 := hG.trans hGr5; have HT5 := Lib.hid (HT.out.gr hGr5); have HO5 := Lib.hid (Gr.own hGr5 HO.out); obtain ⟨g6, hg6⟩ : ∃ g, g = w4.heap.size := ⟨_, rfl⟩; rw [← hg6] at hA5 ⊢; have HID := Lib.hid (infoD d.1 hDl); clear hg6 hG3 hG4 hG5 hGr5 hr hG HGet HD3 HDg HT HO
      go_upto_region 8 with fail
      have hjk : j < k := hlt; refine wp_region_cut (by kernel_rfl) [IsV (.pointer (some ⟨g, 0, none⟩)), IsV (.slice (some ⟨gA, 0, none⟩) k c), IsV (.int .i64 ((j : Nat) : Int)), IsV (.pointer (some ⟨gA, j * 32, none⟩)), IsV (.agg (u8s x.1).toArray), IsV (.agg (u8s d.1).toArray)] 6 (by decide) (by kernel_rfl) (by kernel_rfl) (by kernel_rfl) ?_ ?_ ?_
      · intro φ hφ v w1 w2 h hg; simp only [List.mem_cons, List.not_mem_nil, or_false] at hφ; rcases hφ with rfl | rfl | rfl | rfl | rfl | rfl
        all_goals first | exact h | exact RdV.gr h hg
      · refine ⟨?_, ?_, ?_, ?_, ?_, ?_, trivial⟩
        · intro a1 w1 hG hF; exact s_old rfl (wants0 rfl) (.tmp 3) (.inr rfl) (.pointer (some ⟨g, 0, none⟩)) (hF.ol 3 (by kernel_rfl)) rfl
        · intro a1 w1 hG hF; exact s_old rfl (wants0 rfl) (.tmp 4) (.inr rfl) (.slice (some ⟨gA, 0, none⟩) k c) (hF.ol 4 (by kernel_rfl)) rfl
        · intro a1 w1 hG hF; exact s_old rfl (wants0 rfl) (.tmp 5) (.inr rfl) (.int .i64 ((j : Nat) : Int)) (hF.ol 5 (by kernel_rfl)) rfl
        · intro a1 w1 hG hF; obtain ⟨_, e30, rfl⟩ := hF.dp 1 30 (by kernel_rfl); obtain ⟨_, e31, rfl⟩ := hF.dp 2 31 (by kernel_rfl); exact s_is rfl (wants0 rfl) _ rfl (run_idxZ Tryz.underlying83 (by kernel_rfl) e30 e31 hjk)
        · intro a1 w1 hG hF; obtain ⟨_, e32, rfl⟩ := hF.dp 3 32 (by kernel_rfl); exact s_is rfl (wants0 rfl) _ rfl (run_loadMid ⟨_, _, Tryz.underlying36⟩ HI.out e32 (((Gr.drew w5).trans hG).range hr5))
        · intro a1 w1 hG hF; have e6 : a1.eval (.tmp 6) = .pointer (some ⟨g6, 0, none⟩) := hF.ol 6 (by kernel_rfl); exact s_is rfl (wants0 rfl) _ rfl (run_loadArr ⟨_, _, Tryz.underlying35⟩ HID.out e6 (hA5.gr ((Gr.drew w5).trans hG)))
      · intro vs w9 hG hf; have z29 : vs 0 = .pointer (some ⟨g, 0, none⟩) := hf.1; have z33 : vs 4 = .agg (u8s x.1).toArray := hf.2.2.2.2.1; have z34 : vs 5 = .agg (u8s d.1).toArray := hf.2.2.2.2.2.1; clear hf; simp only [List.take_succ_cons, List.take_zero, List.drop_succ_cons, List.drop_zero, putAll, Nat.zero_add, Nat.reduceAdd, z29, z33, z34]; have hG9 : Gr w w9 := hG05.trans ((Gr.drew w5).trans hG); have hT9 : TreeIs w9 g b j (treeL V (ks.take j)) := HT5.out.gr ((Gr.drew w5).trans hG); have ho9 := Gr.own ((Gr.drew w5).trans hG) HO5.out; have HSet := Lib.hid (set_is hT9 (by omega) x d hg1 hb1 hG9.size (HGw.out.gr hG9) HGw.out.lowG); have HO9 := Lib.hid ho9; clear hG hT9 ho9 hr5 hA5 hG05 HT5 HO5; unfold wpList; go_simp; try refine .inl ?_
        refine HSet.out.mono ?_; rintro e w10 ⟨rfl, hT10, hTn10⟩; have HR : Hid (TrR V ks (some ⟨gA, 0, none⟩) k c g b w (.int .i64 ((j + 1 : Nat) : Int)) w10) := Lib.hid ⟨j + 1, hlt, rfl, by rw [HSt.out]; exact hT10, own_tn HO9.out hTn10 (fun k C f => treeT_cells (by decide)), Below.trans hG9 (hTn10.below hG9.size)⟩; clear hT10 hTn10 HSet HO9; go_simp; go_wp2_with fail
        exact ⟨by rw [show (j : Int) + 1 = ((j + 1 : Nat) : Int) by omega]; exact HR.out, by simp [intOf]; omega⟩
    · obtain rfl : j = k := by omega
      have hji : ¬ (j : Int) < (j : Int) := by omega
      have HF : Hid (TreeIs wr g b j (treeL V ks)) := Lib.hid (by
        have := hT
        rwa [List.take_of_length_le (by rw [HLen.out]; omega)] at this)
      clear hT ho; go_wp2_with fail
      go_ret
      exact ⟨g, b, j, treeL V ks, rfl, HF.out, tree_of HMem.out, hg1, hb1, hG⟩
end Go.Proofs.YtjpphldojbfpfaaGreatDoor
