/- Texts of one proof, laid as one: part 30. No condition. -/
import Derived.Stop.BytesEq
import Derived.Test.YtjpphldojbfpfaaGreatDoorZf05
import Derived.Test.YtjpphldojbfpfaaGreatDoorZf11
import Derived.Test.YtjpphldojbfpfaaGreatDoorZf25
import Derived.Test.YtjpphldojbfpfaaGreatDoorZf28
import Derived.Test.YtjpphldojbfpfaaGreatDoorZf29
namespace Go.Proofs.YtjpphldojbfpfaaGreatDoor
open Go.RowKit
def ownN (k : Nm) : Nam := ⟨-1, k, by decide⟩
def recO (k : Nm) (L : List SibV) : List UInt8 := ((hiB 1 1 ++ hiB 1 0) ++ k.1) ++ outBs (encSibs L)
theorem run_cutAt {P : Program} {T e : TypeId} {n : Nat} (hT : P.underlying T = some (.array n e)) (hsz : (P.info? e).map (·.size) = some 1) (g o : Nat) (w : World) :
    (Instr.sliceAt T (.pointer (some ⟨g, o, none⟩)) none none none).run P w = .ok (.slice (some ⟨g, o, none⟩) n n) w := by
  obtain ⟨e1, e2⟩ := arrayLen_of hT; rw [run_sliceAt_array_all w T _ (by rw [e1, e2]; exact hT), e1, e2]; simp only [run_size1 hsz, Result.andThen_ok, slicedAt, Nat.sub_zero, Nat.zero_mul, add_zero_, ite_self]
theorem name_rd {w : World} {g : Nat} {t : TypeId} {x : Nam} (h : Arr w g t (nameC x)) : Rd w (some ⟨g, 1, none⟩) 32 (u8s x.k.1) := by
  have := h.rd 1 32 (by rw [nameC_len]; omega)
  have e : ((nameC x).drop 1).take 32 = u8s x.k.1 := by
    rw [nameC, List.drop_succ_cons, List.drop_zero, List.take_of_length_le (by rw [u8s_length, x.k.2]; omega)]
  rwa [e] at this
theorem infoName (x : Nam) : (Tryz.prog.info? 69).map (·.size) = some (nameC x).length := by
  rw [nameC_len]
  kernel_rfl
theorem encSibs_le {L : List SibV} (h : ∀ x ∈ L, OkC x.c ∧ x.body.length ≤ 16384) : (encSibs L).length ≤ 1 + L.length * 17100 := by
  unfold encSibs; rw [List.length_append, hiB_length]
  induction L with
  | nil => simp
  | cons x L ih =>
    have h1 := ih fun y hy => h y (List.mem_cons_of_mem _ hy); have h2 := encSib_len (h x (List.mem_cons_self ..)).1 (h x (List.mem_cons_self ..)).2; rw [List.flatMap_cons, List.length_append, List.length_cons]; omega
section
variable {w : World}
set_option maxRecDepth 100000 in
set_option maxHeartbeats 16000000 in
theorem record_own {L : List SibV} {A : Option Addr} {n c : Nat} (k : Nm) (hL : SibsR w A n L) (hg : GoodL L) (hn : n ≤ 32) :
    Calls Tryz.prog 71 #[nameV (ownN k), .slice A n c] w fun e w' => DoneQ (recO k L) w e w' := by
  have hE := encSibs_le (fun x hx => ⟨(hL.ok x hx).ctx, (hL.ok x hx).small⟩); have hl32 : L.length ≤ 32 := by rw [hL.1]; exact hn
  have hE2 : (encSibs L).length ≤ 600000 := by omega
  have HW := Lib.hid (fun w1 (g : Gr w w1) => swrite_any (c := c) (hL.gr g) hg hn); obtain ⟨S, hS⟩ : ∃ S, S = encSibs L := ⟨_, rfl⟩; rw [← hS] at HW hE2; have HS := Lib.hid hS; have hA2 : Arr (w.alloc (.cells (nameC (ownN k)).toArray 69)) w.heap.size 69 (nameC (ownN k)) := Arr.newAt rfl rfl; have hG2 : Gr w (w.alloc (.cells (nameC (ownN k)).toArray 69)) := Gr.alloc _ _; obtain ⟨Z, hZ⟩ : ∃ Z, Z = (nameC (ownN k)).toArray := ⟨_, rfl⟩; unfold nameV; rw [← hZ] at hA2 hG2 ⊢; clear hL hg hS hE hl32 hZ
  go_enter Tryz.func71, Tryz.ntmps71
  go_upto_region 1 with fail
  change Code.wp _ _ _ _ (w.alloc (.cells Z 69)); generalize w.alloc (.cells Z 69) = w1 at hA2 hG2 ⊢; obtain ⟨g2, hg2⟩ : ∃ g, g = w.heap.size := ⟨_, rfl⟩; rw [← hg2] at hA2; simp only [← hg2]; clear hg2
  go_upto_region 4 with (go_at_call 46; refine (HW.out w1 hG2).mono ?_; rintro e w2 ⟨A6, c6, rfl, ho6, hn6, hG6⟩)
  have hA22 := hA2.gr hG6; have hr6 := Rd.of_own ho6; have hGw2 := hG2.trans hG6; have c20 := hA22.cell (i := 0) (v := .int .i64 (-1)) rfl; have hG5 : Gr w2 (outW w2) := Gr.alloc _ _; have c20' := Gr.cell hG5 c20; have HSm := Lib.hid (small_any (x := 1) (w := outW w2) (out_new w2) hG5.size (by omega) (by simp)); obtain ⟨g8, hg8⟩ : ∃ g, g = w2.heap.size := ⟨_, rfl⟩; have HSm2 : Hid (Calls Tryz.prog 96 #[.pointer (some ⟨g8, 0, none⟩), .int .i64 ((1 : Nat) : Int)] (outW w2) fun e w' => PutQ w2.heap.size g8 none ([] ++ hiB 1 1) (outW w2) e w') := by rw [hg8]; exact HSm
  clear HW HSm ho6 hn6 hG6 hG2 hA2 c20
  go_upto_region 5 with fail
  change Code.wp _ _ _ _ (outW w2); simp only [← hg8]; have hg8w : w2.heap.size ≤ g8 := Nat.le_of_eq hg8.symm; clear hg8; generalize outW w2 = w3 at HSm2 hG5 c20' ⊢; go_wp2_with fail
  refine HSm2.out.mono ?_; rintro e w4 ⟨A4, c4, rfl, hO4, hK4⟩; have hB4 : Below w2.heap.size w2 w4 := Below.trans hG5 hK4.below; have HN := Lib.hid (small_any (x := 0) hO4 hB4.size (by omega) (by simp [hiB_length])); clear HSm2 hO4 hK4 hG5; go_wp2_with fail
  refine HN.out.mono ?_; rintro e w5 ⟨A5, c5, rfl, hO5, hK5⟩; have hB5 : Below w2.heap.size w2 w5 := Below.trans hB4 hK5.below; have hrn := name_rd (hA22.below hB5 hA22.lt); have HF := Lib.hid (fixed_any (cX := 32) hO5 hB5.size (by simp [hiB_length]) k.2 (by omega) hrn); have hcut := fun w1 => run_cutAt (P := Tryz.prog) (T := 36) Tryz.underlying36 (by kernel_rfl) g2 1 w1; clear HN hO5 hK5 hB4 hrn; go_wp2_with fail
  refine HF.out.mono ?_; rintro e w6 ⟨A7, c7, rfl, hO6, hK6⟩; have hB6 : Below w2.heap.size w2 w6 := Below.trans hB5 hK6.below; have HBy := Lib.hid (bytes_any (cX := c6) hO6 hB6.size (by simp [hiB_length, k.2]) rfl (by omega) (hr6.keep fun p hp _ => Below.cell hB6 hp) (ApartO.old hr6 (Nat.le_refl _) hB6.size hg8w hO6.base)); clear HF hO6 hK6 hB5 hcut; go_wp2_with fail
  refine HBy.out.mono ?_; rintro e w7 ⟨A8, c8, rfl, hO7, hK7⟩; have hB7 : Below w2.heap.size w2 w7 := Below.trans hB6 hK7.below; have e1 : [] ++ hiB 1 1 ++ hiB 1 0 ++ k.1 ++ outBs S = recO k L := by rw [HS.out]; simp [recO]
  rw [e1] at hO7; have HD := Lib.hid (done_any hO7 (by rw [← e1]; simp [hiB_length, k.2, outBs_length]; omega)); clear HBy hO7 hK7 hB6 e1; go_wp2_with fail
  refine HD.out.mono ?_; rintro e w8 ⟨A9, c9, rfl, ho9, hn9, hG9⟩; have HQ : Hid (DoneQ (recO k L) w (.returned (.tuple #[.slice A9 (recO k L).length c9, .int .i64 0])) w8) := Lib.hid ⟨A9, c9, rfl, own_downS ho9 (Nat.le_trans hGw2.size hB7.size), hn9, (hGw2.trans hB7).trans hG9⟩; clear HD ho9 hn9 hG9 hB7; go_wp2_with fail
  refine bodyPost_ret (results_tmp2 rfl _ _ _) rfl ?_; exact HQ.out
def IFixQ (g p : Nat) (l R : List UInt8) (w : World) (e : Ending) (w' : World) : Prop := ∃ A c A' c', e = .returned (.slice A l.length c) ∧ w'.ownsRow w.heap.size 5 1 (.slice A l.length c) l.length (u8s l) ∧ InIs w' g p A' c' R ∧ InK g w w'
set_option maxRecDepth 100000 in
set_option maxHeartbeats 4000000 in
theorem ifixed_any {g p c n : Nat} {A : Option Addr} {l R : List UInt8} (hI : InIs w g p A c (l ++ R)) (hl : l.length = n) (hn : n ≤ 1000) (hR : R.length ≤ 900000) :
    Calls Tryz.prog 38 #[.pointer (some ⟨g, 0, none⟩), .int .i64 (n : Int)] w fun e w' => IFixQ g p l R w e w' := by
  have H1 := Lib.hid (dead_any hI); have hlen : (l ++ R).length = n + R.length := by rw [List.length_append, hl]
  have H3 := skip_any (k := n) hI (by omega) (by omega); unfold SkipQ at H3; rw [← hl, List.take_left' rfl, List.drop_left' rfl, hl] at H3
  replace H3 := Lib.hid H3
  have hc0 := hI.arr.cell (i := 0) (v := .slice A (l ++ R).length c) rfl; rw [hlen] at hc0; obtain ⟨z, hz⟩ : ∃ z, z = n + R.length := ⟨_, rfl⟩; rw [← hz] at hc0; have h0 : ¬ (n : Int) < 0 := by omega
  have h1 : ¬ (z : Int) < (n : Int) := by omega
  have HL := Lib.hid hl; clear hI hl hlen hz
  go_enter Tryz.func38, Tryz.ntmps38
  go_wp2_with first
    | (go_at_call 81; refine H1.out.mono ?_; rintro e w2 ⟨rfl, rfl⟩)
    | (go_at_call 82; refine H3.out.mono ?_; rintro e w3 ⟨A1, c1, rfl, ho3, _, hI3, hK3⟩)
  go_ret
  exact ⟨A1, c1, _, _, by rw [HL.out]; rfl, by rw [HL.out]; exact ho3, hI3, hK3⟩
end
theorem results_cell_tt {P : Program} {fn : Func} {p q r : Tmp} {ty : TypeId} (h : fn.results = #[.cell p ty, .tmp q, .tmp r]) (tmps : Array Value) (w : World) (g : Nat) (t : TypeId) (cs : Array Value) (fr : Nat × Nat) (d : TypeDesc)
    (hp : tmps.getD p undef = .pointer (some ⟨g, 0, none⟩)) (hg : w.heap[g]? = some (.cells cs t fr))
    (hu : P.underlying ty = some d) (hd : (match d with | .struct _ | .array _ _ => true | _ => false) = true) (hi : (P.info? ty).map (·.size) = some cs.size) :
    (results fn tmps).run P w = .ok (.tuple #[.agg cs, tmps.getD q undef, tmps.getD r undef]) w := by
  have hp' : tmps[p]?.getD undef = .pointer (some ⟨g, 0, none⟩) := by simpa using hp
  simp [results, h, hp', asAddr, run_loadVar_row w g t ty cs fr d hg hu hd hi]
section
variable {P : Program} {ops : Array Oper} {Q : Exit → Act → World → Prop}
theorem stepC_val {cs : List Nat} {St : Nat → World → Prop} {G : World → World → Prop} {L : List (Value → World → Prop)} {i s : Nat} {o : Oper} {a : Act} {w : World} (hi : ops[i]? = some o) (hg : o.guard = none) (hin : cs.contains i = true) (v : Value) (w' : World) (hrun : (execOp a.eval o).run P w = .ok (.value v) w')
    (h1 : (L.getD i AnyV) v w') (h2 : G w w') (h3 : St (s + 1) w') :
    wpOp P ops Q i (fun a' w' => ∃ v, a' = a.put o.dst v ∧ (L.getD i AnyV) v w' ∧ G w w' ∧ (i ∈ cs → St (s + 1) w') ∧ (i ∉ cs → St s w')) a w := by
  have hw : Region.wanted o (yielded ops a.tmps) = true := by simp [Region.wanted, hg]
  unfold wpOp; simp only [hi, hw, if_true, Oper.wp, hrun, Oper.upon]; exact .inl ⟨v, rfl, h1, h2, fun _ => h3, fun h => absurd (List.contains_iff_mem.1 hin) h⟩
theorem run_copyAt {ev : Operand → Value} {w : World} {o : Oper} {d s : Operand} {dT sT : TypeId} (ho : o.op = .call { callee := .builtin .copy, args := #[d, s], argTypes := #[dT, sT] }) (elem : TypeId) (hu : P.underlying dT = some (.slice elem)) (hsz : (P.info? elem).map (·.size) = some 1)
    {g off n dCap c : Nat} {t : TypeId} {cs : List Value} {A : Option Addr} {news : List Value} (hA : Arr w g t cs) (hd : ev d = .slice (some ⟨g, off, none⟩) n dCap) (hs : ev s = .slice A n c) (hr : Rd w A n news) (h1 : ∀ v ∈ news, v.oneCell' = true) (hn : 0 < n) (hfit : off + n ≤ cs.length) :
    ∃ w', (execOp ev o).run P w = .ok (.value (goInt n)) w' ∧ Arr w' g t (cs.take off ++ news ++ cs.drop (off + n)) ∧ InK g w w' := by
  obtain ⟨ad, _, rfl, _, _⟩ := hr.at_ hn; have hl : news.length = n := hr.1
  have hrun := run_copy_cells (P := P) w dT sT o.type elem g off n dCap ad n c news hu hsz (by rw [hl]; exact (Nat.min_self n).symm)
    (fun j v hv => by obtain ⟨ad', e, hc⟩ := hr.2 j v hv; injection e with e; subst e; exact hc)
    (fun j hj => by rw [hA.cell (List.getElem?_eq_getElem (by omega : off + j < cs.length))]; rfl) (fun j _ => hA.frozen _) h1
  refine ⟨w.setCells g off news, ?_, ?_, ink_cells _ _ _ _⟩
  · simp only [execOp, ho, resolve, invoke, builtin, Sem.run_bind, Sem.run_pure, Result.andThen_ok, List.map_toArray, List.map_cons, List.map_nil, hd, hs, hrun]; rw [hl]
  · have := Arr.setCells_from news off w cs hA (by omega)
    rwa [hl] at this
end
section
variable {P : Program} {ops : Array Oper} {Q : Exit → Act → World → Prop}
theorem stepC_copy {cs : List Nat} {St : Nat → World → Prop} {G : World → World → Prop} {L : List (Value → World → Prop)} {i s : Nat} {o : Oper} {a : Act} {w : World} (hi : ops[i]? = some o) (hg : o.guard = none) (hin : cs.contains i = true) {d s' : Operand} {dT sT : TypeId} (ho : o.op = .call { callee := .builtin .copy, args := #[d, s'], argTypes := #[dT, sT] }) (elem : TypeId) (hu : P.underlying dT = some (.slice elem)) (hsz : (P.info? elem).map (·.size) = some 1)
    {g off n dCap c : Nat} {t : TypeId} {xs : List Value} {A : Option Addr} {news : List Value} (hA : Arr w g t xs) (hd : a.eval d = .slice (some ⟨g, off, none⟩) n dCap) (hs : a.eval s' = .slice A n c) (hr : Rd w A n news) (h1 : ∀ v ∈ news, v.oneCell' = true) (hn : 0 < n) (hfit : off + n ≤ xs.length)
    (hK : ∀ w', Arr w' g t (xs.take off ++ news ++ xs.drop (off + n)) → InK g w w' → (L.getD i AnyV) (goInt n) w' ∧ G w w' ∧ St (s + 1) w') :
    wpOp P ops Q i (fun a' w' => ∃ v, a' = a.put o.dst v ∧ (L.getD i AnyV) v w' ∧ G w w' ∧ (i ∈ cs → St (s + 1) w') ∧ (i ∉ cs → St s w')) a w := by
  obtain ⟨w4, hr4, hA4, hK4⟩ := run_copyAt ho elem hu hsz hA hd hs hr h1 hn hfit; obtain ⟨q1, q2, q3⟩ := hK w4 hA4 hK4; exact stepC_val hi hg hin (goInt n) w4 hr4 q1 q2 q3
end
theorem InIs.ink {w w' : World} {g p h c : Nat} {A : Option Addr} {R : List UInt8} (hI : InIs w g p A c R) (hK : InK h w w') (hg : g ≠ h) (hp : p ≠ h) : InIs w' g p A c R :=
  ⟨hK.arr hI.arr hg, hK.rd hI.rd (fun ad e => by rw [hI.blk ad e]; exact hp), hI.blk, hI.far, hI.cap, hI.nil⟩
theorem SibsR.keepS {w w' : World} {A : Option Addr} {n : Nat} {L : List SibV} (h : SibsR w A n L) (hk : ∀ b, InB A L b → b < w.heap.size → w'.heap[b]? = w.heap[b]?) : SibsR w' A n L := by
  have hc : ∀ (b : Nat) (a : Addr) (u : Value), a.block = b → InB A L b → w.cell? a = some u → w'.cell? a = some u := by
    intro b a u e hb hc
    have hlt : a.block < w.heap.size := by
      rcases Nat.lt_or_ge a.block w.heap.size with h' | h'
      · exact h'
      · simp [World.cell?, Array.getElem?_eq_none h'] at hc
    subst e; exact (World.cell?_of_block (hk _ hb hlt)).trans hc
  refine ⟨h.1, fun i x hx => ?_⟩; obtain ⟨⟨b, o, e, hr⟩, hs⟩ := h.2 i x hx; have hxm := List.mem_of_getElem? hx; refine ⟨⟨b, o, e, fun j u hu => hc b _ u rfl (.inl ⟨_, e, rfl⟩) (hr j u hu)⟩, hs.right, hs.ctx, hs.fresh, hs.small, ⟨hs.dots.1, fun j d hd => ?_⟩, hs.nil, ⟨hs.bytes.1, fun j u hu => ?_⟩, hs.nilY⟩
  · obtain ⟨b2, o2, e2, hr2⟩ := hs.dots.2 j d hd; exact ⟨b2, o2, e2, fun q u hu => hc b2 _ u rfl (.inr ⟨x, hxm, .inl ⟨_, e2, rfl⟩⟩) (hr2 q u hu)⟩
  · obtain ⟨ad, e2, hu2⟩ := hs.bytes.2 j u hu; have hb : (ad.add j).block = ad.block := by unfold Addr.add; split <;> rfl
    exact ⟨ad, e2, hc ad.block _ u hb (.inr ⟨x, hxm, .inr ⟨_, e2, rfl⟩⟩) hu2⟩
theorem NewS.inB {B : Nat} {A : Option Addr} {L : List SibV} (h : NewS B A L) : ∀ b, InB A L b → B ≤ b := by
  rintro b (⟨ad, e, rfl⟩ | ⟨x, hx, ⟨ad, e, rfl⟩ | ⟨ad, e, rfl⟩⟩)
  · exact h.1 ad e
  · exact (h.2 x hx).1 ad e
  · exact (h.2 x hx).2 ad e
def zeroN : Nm := ⟨List.replicate 32 0, rfl⟩
def zN (k : Nm) : Nam := ⟨0, k, by decide⟩
def FixSt (gi g7 p : Nat) (k : Nm) (R : List UInt8) : Nat → World → Prop
  | 0, w => (∃ A c, InIs w gi p A c (k.1 ++ R)) ∧ Arr w g7 69 (nameC (zN zeroN))
  | 1, w => (∃ A c, InIs w gi p A c R) ∧ Arr w g7 69 (nameC (zN zeroN))
  | _, w => (∃ A c, InIs w gi p A c R) ∧ Arr w g7 69 (nameC (zN k))
theorem FixSt.gr {gi g7 p s : Nat} {k : Nm} {R : List UInt8} {w w' : World} (h : FixSt gi g7 p k R s w) (hG : Gr w w') : FixSt gi g7 p k R s w' := by
  match s, h with
  | 0, ⟨⟨A, c, h1⟩, h2⟩ => exact ⟨⟨A, c, h1.gr hG⟩, h2.gr hG⟩
  | 1, ⟨⟨A, c, h1⟩, h2⟩ => exact ⟨⟨A, c, h1.gr hG⟩, h2.gr hG⟩
  | _ + 2, ⟨⟨A, c, h1⟩, h2⟩ => exact ⟨⟨A, c, h1.gr hG⟩, h2.gr hG⟩
def FixV (S : Nat) (k : Nm) (v : Value) (w : World) : Prop := ∃ A c, v = .slice A 32 c ∧ w.ownsRow S 5 1 (.slice A 32 c) 32 (u8s k.1)
theorem FixV.ins {S gi g7 : Nat} {k : Nm} {v : Value} {w w' : World} (h : FixV S k v w) (hG : InS (fun i => i = gi ∨ i = g7) w w') (h1 : gi < S) (h2 : g7 < S) : FixV S k v w' := by
  obtain ⟨A, c, e, ho⟩ := h; exact ⟨A, c, e, hG.own ho (fun ad e q => by have := (ho.lt ad.block (by rw [e]; rfl)).1; omega)⟩
theorem sopen_parts (k : Nm) (L : List SibV) : recO k L = hiB 1 1 ++ (hiB 1 0 ++ (k.1 ++ (outBs (encSibs L) ++ []))) := by simp [recO]
def SReadQ (k : Nm) (L : List SibV) (w : World) (e : Ending) (w' : World) : Prop := ∃ (A : Option Addr) (n c : Nat) (L' : List SibV), e = .returned (.tuple #[nameV (ownN k), .slice A n c, .int .i64 0]) ∧ SibsR w' A n L' ∧ L'.map keyV = L.map keyV ∧ Gr w w' ∧ NewS w.heap.size A L'
section
variable {w : World}
set_option maxRecDepth 100000 in
set_option maxHeartbeats 16000000 in
theorem sread_own {X : Option Addr} {m cX : Nat} (k : Nm) {L : List SibV} (hX : Rd w X m (u8s (recO k L))) (hm : (recO k L).length = m) (hm7 : m ≤ 300000) (hX0 : X = none → cX = 0) (hok : ∀ x ∈ L, OkV x) (hg : GoodL L) (hl32 : L.length ≤ 32) :
    Calls Tryz.prog 17 #[.slice X m cX] w fun e w' => SReadQ k L w e w' := by
  have hE2 : (encSibs L).length ≤ 300000 := by
    rw [← hm] at hm7; simp only [recO, List.length_append, outBs_length, hiB_length, k.2] at hm7; omega
  have hm1 : 0 < m := by
    rw [← hm]; simp only [recO, List.length_append, hiB_length]; omega
  have HSR := Lib.hid (fun w1 A c (hr : Rd w1 A (encSibs L).length (u8s (encSibs L))) (h0 : A = none → c = 0) => sread_new (cX := c) hok hg hl32 hr h0); have HOf0 := fun w1 (g : Gr w w1) => of_any (c := cX) (g.rd hX) (by omega) hm1 hm hX0; rw [sopen_parts] at HOf0; have HOf := Lib.hid HOf0; clear HOf0; obtain ⟨S, hS⟩ : ∃ S, S = encSibs L := ⟨_, rfl⟩; rw [← hS] at HSR HOf hE2; clear hX hm hok hg hS hX0; have hA2 : Arr (w.alloc (.cells (nameC (zN zeroN)).toArray 69)) w.heap.size 69 (nameC (zN zeroN)) := Arr.newAt rfl rfl; have hG2 : Gr w (w.alloc (.cells (nameC (zN zeroN)).toArray 69)) := Gr.alloc _ _
  go_enter Tryz.func17, Tryz.ntmps17
  go_upto_region 1 with fail
  change Code.wp _ _ _ _ (w.alloc (.cells (nameC (zN zeroN)).toArray 69)); generalize w.alloc (.cells (nameC (zN zeroN)).toArray 69) = w1 at hA2 hG2 ⊢; obtain ⟨g2, hg2⟩ : ∃ g, g = w.heap.size := ⟨_, rfl⟩; rw [← hg2] at hA2; simp only [← hg2]; have hg2w : w.heap.size ≤ g2 := Nat.le_of_eq hg2.symm; clear hg2
  go_upto_region 2 with (go_at_call 36; refine (HOf.out w1 hG2).mono ?_; rintro e w2 ⟨gi, p, A5, c5, rfl, hgi, hgi2, _, _, hI, hG3⟩)
  have HK := Lib.hid (ismall_any (most := 2) hI (by omega) (by omega) (by simp [hiB_length, k.2, outBs_length]; omega)); have hgi2' : gi ≠ g2 := by have := hA2.lt; omega
  have hgiw : w.heap.size ≤ gi := Nat.le_trans hG2.size hgi; have hA22 := hA2.gr hG3; have hGw2 := hG2.trans hG3; clear HOf hI hA2 hG2 hG3 hgi
  go_upto_region 3 with (go_at_call 37; refine HK.out.mono ?_; rintro e w3 ⟨A6, c6, rfl, hI3, hK3⟩)
  have HK2 := Lib.hid (ismall_any (most := 7) hI3 (by omega) (by omega) (by simp [k.2, outBs_length]; omega)); clear HK hI3
  go_upto_region 4 with first
    | (go_at_call 37; refine HK2.out.mono ?_; rintro e w4 ⟨A7, c7, rfl, hI4, hK4⟩)
    | (refine wpList_new (w := w4) (t := 69) rfl _ _ _ rfl w4.heap.size (nameC (zN zeroN)) rfl rfl rfl (by rw [nameC_len]; rfl) (infoName _) (nameC_one _) ?_; intro w5 hA7 hG5)
  obtain ⟨g7, hg7⟩ : ∃ g, g = w4.heap.size := ⟨_, rfl⟩; rw [← hg7] at hA7; simp only [← hg7]; have hs42 : w2.heap.size ≤ w4.heap.size := (hK3.trans hK4).size; have hg7i : gi < g7 := by omega
  have hg72 : g2 ≠ g7 := by have := hA22.lt; omega
  clear hg7; have hI5 := hI4.gr hG5; have hK25 : InK gi w2 w5 := (hK3.trans hK4).trans (InK.of_gr hG5); have hA25 := hK25.arr hA22 (Ne.symm hgi2'); have hGw5 : Gr w w5 := hK25.gr_after hGw2 hgiw; have hS5 : g7 < w5.heap.size := hA7.lt; clear HK2 hI4 hK3 hK4 hG5 hK25 hA22 hGw2 hs42; refine wp_region_chain [3, 4] (FixSt gi g7 p k (outBs S ++ [])) (InS fun i => i = gi ∨ i = g7) (fun _ _ _ => InS.trans) (by kernel_rfl) [IsV (.pointer (some ⟨g7, 1, none⟩)), IsV (.slice (some ⟨g7, 1, none⟩) 32 32), IsV (.pointer (some ⟨gi, 0, none⟩)), FixV w5.heap.size k, IsV (goInt 32)] (by kernel_rfl) (by decide) (by kernel_rfl) (InS.refl _ _) ⟨⟨_, _, hI5.gr (Gr.drew _)⟩, hA7.gr (Gr.drew _)⟩ ?_ ?_ ?_
  · intro φ hφ v w1 w2 h hg; simp only [List.mem_cons, List.not_mem_nil, or_false] at hφ; rcases hφ with rfl | rfl | rfl | rfl | rfl
    all_goals first | exact h | exact FixV.ins h hg (by omega) hS5
  · refine ⟨?_, ?_, ?_, ?_, ?_, trivial⟩
    · intro s a1 w3 hG hS _ hF; have e7 : a1.eval (.tmp 7) = .pointer (some ⟨g7, 0, none⟩) := hF.ol 7 (by kernel_rfl); exact stepC_gr rfl (fun _ h => InS.of_gr h) (fun _ h => hS.gr h) (s_is rfl (wants0 rfl) _ rfl (run_fieldR (o := 1) (k := 31) Tryz.underlying69 rfl rfl (by kernel_rfl) e7))
    · intro s a1 w3 hG hS _ hF; obtain ⟨_, e17, rfl⟩ := hF.dp 0 17 (by kernel_rfl); exact stepC_gr rfl (fun _ h => InS.of_gr h) (fun _ h => hS.gr h) (s_is rfl (wants0 rfl) _ rfl (by simp only [execOp, e17, Option.map, Sem.run_bind, run_cutAt (P := Tryz.prog) Tryz.underlying36 (by kernel_rfl) g7 1, Result.andThen_ok, Sem.run_pure]))
    · intro s a1 w3 hG hS _ hF; exact stepC_gr rfl (fun _ h => InS.of_gr h) (fun _ h => hS.gr h) (s_old rfl (wants0 rfl) (.tmp 5) (.inr rfl) (.pointer (some ⟨gi, 0, none⟩)) (hF.ol 5 (by kernel_rfl)) rfl)
    · intro s a1 w3 hG hS hw hF; have h0 := hw 0 rfl; subst h0; obtain ⟨⟨A8, c8, hI⟩, hA⟩ := hS; obtain ⟨_, e19, rfl⟩ := hF.dp 2 19 (by kernel_rfl); refine stepC_call rfl rfl rfl 38 #[.pointer (some ⟨gi, 0, none⟩), .int .i64 ((32 : Nat) : Int)] (by simp only [execOp, resolve, invoke, List.map_toArray, List.map_cons, List.map_nil, e19]; go_simp) ((ifixed_any hI k.2 (by omega) (by simp [outBs_length]; omega)).mono fun e w4 hq => ?_); obtain ⟨A9, c9, A10, c10, he, ho, hI4, hK4⟩ := hq; rw [k.2] at he ho; exact ⟨_, he, ⟨A9, c9, rfl, own_downS ho (by have := hG.size; have := (Gr.drew w5).size; omega)⟩, InS.of_ink hK4 (.inl rfl), ⟨⟨_, _, hI4⟩, hK4.arr hA (by omega)⟩⟩
    · intro s a1 w3 hG hS hw hF; have h0 := hw 1 rfl; subst h0; obtain ⟨⟨A8, c8, hI⟩, hA⟩ := hS; obtain ⟨_, e18, rfl⟩ := hF.dp 1 18 (by kernel_rfl); obtain ⟨x20, e20, A9, c9, rfl, ho⟩ := hF.dp 3 20 (by kernel_rfl); refine stepC_copy rfl rfl rfl rfl 5 Tryz.underlying43 (by kernel_rfl) hA e18 e20 (Rd.of_own ho) (u8s_oneCell _) (by omega) (by rw [nameC_len]; omega) fun w4 hA4 hK4 => ⟨rfl, InS.of_ink hK4 (.inr rfl), ⟨⟨_, _, hI.ink hK4 (by omega) (by omega)⟩, ?_⟩⟩
      have e1 : (nameC (zN zeroN)).take 1 ++ u8s k.1 ++ (nameC (zN zeroN)).drop (1 + 32) = nameC (zN k) := by
        rw [List.drop_of_length_le (by rw [nameC_len]; omega), List.append_nil]; rfl
      rw [e1] at hA4; exact hA4
  · intro vs w6 hG6 _ hSt6; obtain ⟨⟨A8, c8, hI6⟩, hA76⟩ : (∃ A c, InIs w6 gi p A c (outBs S ++ [])) ∧ Arr w6 g7 69 (nameC (zN k)) := hSt6; have hI56 : InS (fun i => i = gi ∨ i = g7) w5 w6 := (InS.of_gr (Gr.drew w5)).trans hG6
    have hA26 := hI56.arr hA25 (by
      rintro (e | e)
      · exact hgi2' e.symm
      · exact hg72 e)
    have hg7w : w.heap.size ≤ g7 := by omega
    have hGw6 : Gr w w6 := InS.gr_after hGw5 hI56 (fun i hi h => by rcases h with h | h <;> omega); have HB := Lib.hid (ibytes_big (most := 16777216) hI6 (by omega) (by omega) hE2 (by simp)); clear hG6 hA25 hI5 hA7 hI6 hI56 hGw5; simp only [putAll, Nat.zero_add, Nat.reduceAdd]; go_simp
    go_upto_region 5 with fail
    go_upto_region 6 with first
      | (go_at_call 40; refine HB.out.mono ?_; rintro e w7 ⟨A9, c9, A10, c10, rfl, ho7, hn7, hI7, hK7⟩)
      | (go_at_call 39; refine (HSR.out w7 A9 c9 (Rd.of_own ho7) hn7).mono ?_; rintro e w8 ⟨As, ns, cs, L', rfl, hs8, hk8, hG8, hN8⟩)
    have hGw7 : Gr w w7 := hK7.gr_after hGw6 hgiw; have HS8 := Lib.hid hs8; have HK8 := Lib.hid hk8; have HN8 := Lib.hid hN8; have HE := Lib.hid (iend_any (hI7.gr hG8)); have hA78 := (hK7.arr hA76 (by omega)).gr hG8; have hA28 := (hK7.arr hA26 (Ne.symm hgi2')).gr hG8; have hGw8 := hGw7.trans hG8; have c70 := hA78.cell (i := 0) (v := .int .i64 0) rfl; have hs7 : w.heap.size ≤ w7.heap.size := hGw7.size; have hg77 : g7 < w7.heap.size := (hK7.arr hA76 (by omega)).lt; have hg27 : g2 < w7.heap.size := (hK7.arr hA26 (Ne.symm hgi2')).lt; clear hs8 hk8 hN8 HB ho7 hI7 hK7 hA76 hA26 hGw6 hGw7 hn7 hG8
    go_upto_region 8 with (go_at_call 41; refine HE.out.mono ?_; rintro e w9 ⟨rfl, rfl⟩)
    go_upto_region 10 with (refine wpList_setV hA78 rfl 3 (.tmp 51) (.const (.int .i64 (-1))) rfl (by kernel_rfl) 0 (.int .i64 (-1)) rfl rfl (by rw [nameC_len]; omega) (.inr (.inl ⟨_, _, rfl⟩)) ?_; intro w10 hA710 hK10)
    have hA7o : Arr w10 g7 69 (nameC (ownN k)) := hA710; have hA210 := hK10.arr hA28 hg72; have hr7 : w10.rangeAt g7 0 (nameC (ownN k)) := Arr.range hA7o; have hGw10 : Gr w w10 := hK10.gr_after hGw8 hg7w; have hK10' := Lib.hid hK10; clear hA710 hA78 hA28 c70 hGw8 HE hK10
    go_wp2_with first
      | (refine wpList_load_mid rfl _ _ rfl g7 0 rfl (nameC (ownN k)) _ hr7 Tryz.underlying69 rfl (infoName _) ?_)
      | (refine wpList_midK (off := 0) hA210 rfl 69 (.tmp 2) (.tmp 52) rfl (nameC (ownN k)) (by kernel_rfl) (by kernel_rfl) (by rw [nameC_len, nameC_len]; omega) (infoName _) (nameC_one _) ?_; intro w11 hA211 hK11)
    rw [List.take_zero, List.nil_append, List.drop_of_length_le (by rw [nameC_len, nameC_len]; omega), List.append_nil] at hA211; refine bodyPost_ret (results_cell_tt rfl _ _ g2 _ _ _ _ rfl hA211 Tryz.underlying69 rfl (infoName _)) rfl ?_; refine ⟨As, ns, cs, L', rfl, ?_, HK8.out, hK11.gr_after hGw10 hg2w, ?_⟩
    · refine HS8.out.keepS fun b hb hlt => ?_; have hb7 := HN8.out.inB b hb; exact (hK11.other b (Nat.lt_of_lt_of_le hlt hK10'.out.size) (by omega)).trans (hK10'.out.other b hlt (by omega))
    · exact ⟨fun ad e => Nat.le_trans hs7 (HN8.out.1 ad e), fun x hx => ⟨fun ad e => Nat.le_trans hs7 ((HN8.out.2 x hx).1 ad e), fun ad e => Nat.le_trans hs7 ((HN8.out.2 x hx).2 ad e)⟩⟩
end
end Go.Proofs.YtjpphldojbfpfaaGreatDoor
namespace Go.Proofs.YtjpphldojbfpfaaGreatDoor
open Go.RowKit
end Go.Proofs.YtjpphldojbfpfaaGreatDoor
namespace Go.Proofs.YtjpphldojbfpfaaGreatDoor
open Go.RowKit
open Go.ChangeMaps (setBlock)
def shC (lg mp : Nat) : List Value := [.pointer (some ⟨lg, 0, none⟩), .map (some mp)]
section
variable {P : Program} {ops : Array Oper} {Q : Exit → Act → World → Prop} {rest : List Oper} {o : Oper} {a : Act} {w : World}
theorem wpList_putS {ops : Array Oper} {b n : Nat} {M : Nam → Option SlA} (hgd : o.guard = none) (m x v : Operand) (ho : o.op = .mapUpdate 64 m x v) (h : SM w b n M) (hn : n < maxLen) (k : Nam) (d : SlA) (hm : a.eval m = .map (some b)) (h1 : a.eval x = nameV k) (h2 : a.eval v = slV d)
    (hK : ∀ w', SM w' b (n + 1) (updS M k (some d)) → InK b w w' → wpList Tryz.prog ops Q rest (a.put o.dst undef) w') : wpList Tryz.prog ops Q (o :: rest) a w := by
  refine wpList_plain hgd fun K' hK' => ?_; obtain ⟨w', hrun, hM, o', hw⟩ := h.put Tryz.underlying64 hn k d; unfold Oper.wp; simp only [execOp, ho, hm, h1, h2, Sem.run_bind, hrun, Result.andThen_ok, Sem.run_pure]; exact hK' _ _ (hK w' hM (by rw [hw]; exact ink_setBlock w b o'))
end
section
variable {w : World} {sh lg mp : Nat}
set_option maxRecDepth 100000 in
set_option maxHeartbeats 8000000 in
theorem sset_any {n : Nat} {M : Nam → Option SlA} (hS : Arr w sh 66 (shC lg mp)) (hM : SM w mp n M) (hn : n ≤ 1000000) (x : Nam) (A : Option (Nat × Nat)) (q c : Nat) (hq : 0 < q) :
    Calls Tryz.prog 18 #[.pointer (some ⟨sh, 0, none⟩), nameV x, slV (A, q, c)] w fun e w' => e = .returned (.tuple #[]) ∧ SM w' mp (n + 1) (updS M x (some (A, q, c))) ∧ InS (fun i => i = mp) w w' := by
  have hA4 : Arr (w.alloc (.cells (nameC x).toArray 69)) w.heap.size 69 (nameC x) := Arr.newAt rfl rfl; have hG4 : Gr w (w.alloc (.cells (nameC x).toArray 69)) := Gr.alloc _ _; have hq0 : ((q : Int) == 0) = false := by simp; omega
  have hq1 : ¬ (q : Int) = 0 := by omega
  obtain ⟨Ad, hAd⟩ : ∃ Ad, slV (A, q, c) = .slice Ad q c := by
    cases A with
    | none => exact ⟨_, rfl⟩
    | some p => exact ⟨_, rfl⟩
  have HAd := Lib.hid hAd; rw [hAd]; have hmp := hM.lt; obtain ⟨Z, hZ⟩ : ∃ Z, Z = (nameC x).toArray := ⟨_, rfl⟩; unfold nameV; rw [← hZ] at hA4 hG4 ⊢; have HZ := Lib.hid hZ; clear hZ hAd
  go_enter Tryz.func18, Tryz.ntmps18
  go_upto_region 3 with fail
  change Code.wp _ _ _ _ (w.alloc (.cells Z 69)); generalize w.alloc (.cells Z 69) = wB at hA4 hG4 ⊢; obtain ⟨g4, hg4⟩ : ∃ g, g = w.heap.size := ⟨_, rfl⟩; rw [← hg4] at hA4; simp only [← hg4]; clear hg4; have cm := (hS.gr hG4).cell (i := 1) (v := .map (some mp)) rfl; refine wp_region_cut (by kernel_rfl) [IsV (.pointer (some ⟨sh, 0, none⟩)), IsV (.pointer (some ⟨sh, 0, none⟩)), IsV (.pointer (some ⟨sh, 1, none⟩)), IsV (.map (some mp)), IsV (.agg (nameC x).toArray), IsV (.slice Ad q c)] 6 (by decide) (by kernel_rfl) (by kernel_rfl) (by kernel_rfl) ?_ ?_ ?_
  · intro φ hφ v w1 w2 h hg; simp only [List.mem_cons, List.not_mem_nil, or_false] at hφ; rcases hφ with rfl | rfl | rfl | rfl | rfl | rfl
    all_goals first | exact h | exact RdV.gr h hg
  · refine ⟨?_, ?_, ?_, ?_, ?_, ?_, trivial⟩
    · intro a1 w1 hG hF; exact s_old rfl (wants0 rfl) (.tmp 0) (.inr rfl) (.pointer (some ⟨sh, 0, none⟩)) (hF.ol 0 (by kernel_rfl)) rfl
    · intro a1 w1 hG hF; obtain ⟨_, e14, rfl⟩ := hF.dp 0 14 (by kernel_rfl); exact s_is rfl (wants0 rfl) _ rfl (run_nil e14)
    · intro a1 w1 hG hF; obtain ⟨_, e15, rfl⟩ := hF.dp 1 15 (by kernel_rfl); exact s_is rfl (wants0 rfl) _ rfl (run_fieldR (o := 1) (k := 0) Tryz.underlying66 rfl rfl (by kernel_rfl) e15)
    · intro a1 w1 hG hF; obtain ⟨_, e16, rfl⟩ := hF.dp 2 16 (by kernel_rfl); exact s_is rfl (wants0 rfl) _ rfl (run_load1B (.inr (.inl ⟨_, _, Tryz.underlying64⟩)) e16 (Gr.cell ((Gr.drew wB).trans hG) cm))
    · intro a1 w1 hG hF; have e4 : a1.eval (.tmp 4) = .pointer (some ⟨g4, 0, none⟩) := hF.ol 4 (by kernel_rfl); exact s_wp rfl (wants0 rfl) (wp_load_mid _ _ rfl g4 0 e4 (nameC x) _ (((Gr.drew wB).trans hG).range (Arr.range hA4)) Tryz.underlying69 rfl (infoName x) ⟨_, rfl, rfl, Gr.refl _⟩)
    · intro a1 w1 hG hF; exact s_old rfl (wants0 rfl) (.tmp 2) (.inr rfl) (.slice Ad q c) (hF.ol 2 (by kernel_rfl)) rfl
  · intro vs w9 hG hf; have z17 : vs 3 = .map (some mp) := hf.2.2.2.1; have z18 : vs 4 = .agg (nameC x).toArray := hf.2.2.2.2.1; have z19 : vs 5 = .slice Ad q c := hf.2.2.2.2.2.1; clear hf; simp only [List.take_succ_cons, List.take_zero, List.drop_succ_cons, List.drop_zero, putAll, Nat.zero_add, Nat.reduceAdd, z17, z18, z19]; have hGw9 : Gr w w9 := hG4.trans ((Gr.drew wB).trans hG); have hM9 := hM.gr hGw9; clear hG cm hA4; refine wpList_putS rfl (.tmp 17) (.tmp 18) (.tmp 19) rfl hM9 (by unfold maxLen; omega) x (A, q, c) (by kernel_rfl) (by kernel_rfl) (by rw [HAd.out]; kernel_rfl) ?_; intro w10 hM10 hK10; have HQ : Hid (SM w10 mp (n + 1) (updS M x (some (A, q, c))) ∧ InS (fun i => i = mp) w w10) := Lib.hid ⟨hM10, (InS.of_gr hGw9).trans (InS.of_ink hK10 rfl)⟩; clear hM10 hK10 hGw9 hM9; unfold wpList; go_simp; go_wp2_with fail
    refine bodyPost_end (results_none rfl _ _ _) rfl ?_; exact ⟨rfl, HQ.out⟩
set_option maxRecDepth 100000 in
theorem ssame_len {A B : Option Addr} {n m c d : Nat} (h : n ≠ m) (w : World) :
    Calls Tryz.prog 32 #[.slice A n c, .slice B m d] w fun e w' => e = .returned (.bool false) ∧ Gr w w' := by
  have h1 : ¬ (n : Int) = (m : Int) := fun e => h (Int.ofNat.inj e); have h2 : ((n : Int) == (m : Int)) = false := by simp; omega
  have HEq : Hid (Calls Tryz.prog 67 #[.slice A n c, .slice B m d, .func (.func 68) #[] #[]] w fun e w' => e = .returned (.bool false) ∧ w = w') := Lib.hid (by
    go_enter Tryz.func67, Tryz.ntmps67
    go_wp2_with fail
    go_ret
    exact ⟨rfl, rfl⟩)
  clear h h1 h2
  go_enter Tryz.func32, Tryz.ntmps32
  go_wp2_with (go_at_call 67; refine HEq.out.mono ?_; rintro e w2 ⟨rfl, rfl⟩)
  go_ret
  exact ⟨rfl, Gr.refl _⟩
end
end Go.Proofs.YtjpphldojbfpfaaGreatDoor
namespace Go.Proofs.YtjpphldojbfpfaaGreatDoor
open Go.RowKit
abbrev KV := DotM × CtxM × List UInt8
def lastV (R : List (Nm × List SibV)) (k : Nm) : List KV := R.foldl (fun v p => if p.1 = k then p.2.map keyV else v) []
theorem lastV_app (R : List (Nm × List SibV)) (q : Nm × List SibV) (k : Nm) : lastV (R ++ [q]) k = if q.1 = k then q.2.map keyV else lastV R k := by
  simp [lastV, List.foldl_append]
def recsB (R : List (Nm × List SibV)) : List UInt8 := (R.map fun p => recO p.1 p.2).flatMap recB
theorem recsB_app (R : List (Nm × List SibV)) (k : Nm) (L : List SibV) : recsB (R ++ [(k, L)]) = recsB R ++ recB (recO k L) := by
  simp [recsB]
def slAd (s : SlA) : Option Addr := s.1.map fun p => ⟨p.1, p.2, none⟩
theorem slV_ad (s : SlA) : slV s = .slice (slAd s) s.2.1 s.2.2 := by
  obtain ⟨A, n, c⟩ := s; cases A <;> rfl
theorem sibs_ad {w : World} {A : Option Addr} {n c : Nat} {L : List SibV} (h : SibsR w A n L) (hn : 0 < n) : ∃ s : SlA, slAd s = A ∧ s.2.1 = n ∧ s.2.2 = c ∧ s = (s.1, n, c) ∧ .slice A n c = slV s := by
  obtain ⟨x, hx⟩ : ∃ x, L[0]? = some x := ⟨_, List.getElem?_eq_getElem (by rw [h.1]; exact hn)⟩; obtain ⟨⟨b, o, e, _⟩, _⟩ := h.2 0 x hx; exact ⟨(some (b, o), n, c), by rw [e]; rfl, rfl, rfl, rfl, by rw [e]; rfl⟩
structure OkR (p : Nm × List SibV) : Prop where
  good : GoodL p.2
  each : ∀ x ∈ p.2, OkV x
  ne : p.2 ≠ []
  few : p.2.length ≤ 32
structure SetIs (X : Nat → Prop) (w : World) (s : SlA) (V : List KV) : Prop where
  ne : V ≠ []
  row : ∃ L, SibsR w (slAd s) s.2.1 L ∧ L.map keyV = V ∧ ∀ b, InB (slAd s) L b → ¬ X b
def SetsIs (X : Nat → Prop) (w : World) (M : Nam → Option SlA) (V : Nm → List KV) : Prop := (∀ x : Nam, x.z ≠ -1 → M x = none) ∧ ∀ k, match M (ownN k) with | none => V k = [] | some s => SetIs X w s (V k)
def ShB (D : Dk) (lg mp : Nat) (i : Nat) : Prop := i = D.d ∨ i = D.gn ∨ i = D.gf ∨ i = lg ∨ i = mp
structure ShelfIs (X : Nat → Prop) (w : World) (D : Dk) (sh lg mp t n : Nat) (R : List (Nm × List SibV)) : Prop where
  old : ∀ i, X i → i < w.heap.size
  shelf : Arr w sh 66 (shC lg mp)
  shX : ¬ X sh
  turn : ∀ i, ShB D lg mp i → X i
  log : ∃ L A c, LogIs w D lg t 0 (recsB R) L A c ∧ ∀ ad, A = some ad → ¬ X ad.block
  map : ∃ M, SM w mp n M ∧ SetsIs X w M (lastV R)
  recs : ∀ p ∈ R, OkR p
  dif : mp ≠ D.d ∧ mp ≠ D.gn ∧ mp ≠ D.gf ∧ mp ≠ lg
section
variable {X S : Nat → Prop} {w w' : World}
theorem SetIs.gr {s : SlA} {V : List KV} (h : SetIs X w s V) (hG : Gr w w') : SetIs X w' s V := by
  obtain ⟨L, h1, h2, h3⟩ := h.row; exact ⟨h.ne, L, h1.gr hG, h2, h3⟩
theorem SetIs.ins {s : SlA} {V : List KV} (h : SetIs X w s V) (hS : InS S w w') (hX : ∀ i, S i → X i) : SetIs X w' s V := by
  obtain ⟨L, h1, h2, h3⟩ := h.row; exact ⟨h.ne, L, h1.keepS (fun b hb hlt => hS.other b hlt fun q => h3 b hb (hX b q)), h2, h3⟩
theorem SetsIs.gr {M : Nam → Option SlA} {V : Nm → List KV} (h : SetsIs X w M V) (hG : Gr w w') : SetsIs X w' M V := by
  refine ⟨h.1, fun k => ?_⟩; have := h.2 k; cases hM : M (ownN k) with
  | none => rw [hM] at this; exact this
  | some s => rw [hM] at this; exact this.gr hG
theorem SetsIs.ins {M : Nam → Option SlA} {V : Nm → List KV} (h : SetsIs X w M V) (hS : InS S w w') (hX : ∀ i, S i → X i) : SetsIs X w' M V := by
  refine ⟨h.1, fun k => ?_⟩; have := h.2 k; cases hM : M (ownN k) with
  | none => rw [hM] at this; exact this
  | some s => rw [hM] at this; exact this.ins hS hX
theorem ownN_inj {k k' : Nm} (h : ownN k = ownN k') : k = k' := congrArg Nam.k h
theorem SetsIs.upd {M : Nam → Option SlA} {R : List (Nm × List SibV)} (h : SetsIs X w M (lastV R)) (k : Nm) (L : List SibV) {s : SlA} (hs : SetIs X w s (L.map keyV)) : SetsIs X w (updS M (ownN k) (some s)) (lastV (R ++ [(k, L)])) := by
  refine ⟨fun x hx => ?_, fun k' => ?_⟩
  · unfold updS; rw [if_neg (fun e => hx (by rw [e]; rfl)), h.1 x hx]
  · rw [lastV_app]; unfold updS
    by_cases e : k = k'
    · subst e; simp only [if_true]; exact hs
    · rw [if_neg (fun q => e (ownN_inj q).symm), if_neg e]; exact h.2 k'
variable {D : Dk} {sh lg mp t n : Nat} {R : List (Nm × List SibV)}
theorem ShelfIs.gr (h : ShelfIs X w D sh lg mp t n R) (hG : Gr w w') : ShelfIs X w' D sh lg mp t n R := by
  obtain ⟨L, A, c, h1, h2⟩ := h.log; obtain ⟨M, m1, m2⟩ := h.map; exact ⟨fun i hi => Nat.lt_of_lt_of_le (h.old i hi) hG.size, h.shelf.gr hG, h.shX, h.turn, ⟨L, A, c, h1.gr hG, h2⟩, ⟨M, m1.gr hG, m2.gr hG⟩, h.recs, h.dif⟩
theorem ShelfIs.ins (h : ShelfIs X w D sh lg mp t n R) (hS : InS S w w') (hX : ∀ i, S i → X i) (hd : ∀ i, ShB D lg mp i → ¬ S i) : ShelfIs X w' D sh lg mp t n R := by
  obtain ⟨L, A, c, h1, h2⟩ := h.log; obtain ⟨M, m1, m2⟩ := h.map
  exact ⟨fun i hi => Nat.lt_of_lt_of_le (h.old i hi) hS.size, hS.arr h.shelf (fun q => h.shX (hX _ q)), h.shX, h.turn,
    ⟨L, A, c, h1.ins hS (hd _ (.inl rfl)) (hd _ (.inr (.inl rfl))) (hd _ (.inr (.inr (.inl rfl)))) (hd _ (.inr (.inr (.inr (.inl rfl))))) (fun ad e q => h2 ad e (hX _ q)), h2⟩,
    ⟨M, m1.ins hS (hd _ (.inr (.inr (.inr (.inr rfl))))), m2.ins hS hX⟩, h.recs, h.dif⟩
theorem OkR.of {A : Option Addr} {q : Nat} {L : List SibV} (k : Nm) (hL : SibsR w A q L) (hg : GoodL L) (hq : 0 < q) (hq2 : q ≤ 32) : OkR (k, L) :=
  ⟨hg, fun x hx => ⟨(hL.ok x hx).right, (hL.ok x hx).ctx, (hL.ok x hx).fresh, (hL.ok x hx).small⟩, fun e => by have := hL.1; simp only at e; rw [e] at this; simp at this; omega, by show L.length ≤ 32; rw [hL.1]; exact hq2⟩
end
end Go.Proofs.YtjpphldojbfpfaaGreatDoor
