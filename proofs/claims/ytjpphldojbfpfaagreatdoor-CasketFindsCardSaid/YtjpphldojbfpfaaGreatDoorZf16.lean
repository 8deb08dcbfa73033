/- Texts of one proof, laid as one: part 16. No condition. -/
import Derived.Test.YtjpphldojbfpfaaGreatDoorZf01
import Derived.Test.YtjpphldojbfpfaaGreatDoorZf05
import Derived.Test.YtjpphldojbfpfaaGreatDoorZf11
namespace Go.Proofs.YtjpphldojbfpfaaGreatDoor
open Go.RowKit
def hiB (k x : Nat) : List UInt8 := (leBytes k x).reverse
theorem hiB_length (k x : Nat) : (hiB k x).length = k := by simp [hiB]
structure OutIs (w : World) (B g : Nat) (A : Option Addr) (c : Nat) (L : List UInt8) : Prop where
  arr : Arr w g 178 [.slice A L.length c, .bool false]
  own : w.ownsRow B 5 1 (.slice A L.length c) L.length (u8s L)
  at_ : B ≤ g
structure OutK (B g : Nat) (A A' : Option Addr) (w w' : World) : Prop where
  below : Below B w w'
  other : ∀ k, k < w.heap.size → k ≠ g → (∀ ad, A = some ad → ad.block ≠ k) → w'.heap[k]? = w.heap[k]? ∧ ∀ ad, A' = some ad → ad.block ≠ k
theorem OutK.trans {B g : Nat} {A1 A2 A3 : Option Addr} {a b c : World} (h : OutK B g A1 A2 a b) (k : OutK B g A2 A3 b c) : OutK B g A1 A3 a c :=
  ⟨h.below.trans k.below, fun i hi hg hA => by
    obtain ⟨e1, h1⟩ := h.other i hi hg hA; obtain ⟨e2, h2⟩ := k.other i (Nat.lt_of_lt_of_le hi h.below.size) hg h1; exact ⟨e2.trans e1, h2⟩⟩
theorem OutIs.gr {w w' : World} {B g : Nat} {A : Option Addr} {c : Nat} {L : List UInt8} (h : OutIs w B g A c L) (hG : Gr w w') : OutIs w' B g A c L := ⟨h.arr.gr hG, Gr.own hG h.own, h.at_⟩
def PutQ (B g : Nat) (A : Option Addr) (L : List UInt8) (w : World) (e : Ending) (w' : World) : Prop := ∃ A' c', e = .returned (.pointer (some ⟨g, 0, none⟩)) ∧ OutIs w' B g A' c' L ∧ OutK B g A A' w w'
structure NO (B : Nat) (A : Option Addr) (n c m : Nat) (xs ys : List Value) (w w' : World) : Prop where
  tn : Tn (blkT A 5) B w w'
  old : w.ownsRow B 5 1 (.slice A n c) n xs → w'.ownsRow B 5 1 (.slice A n c) n xs
  new : ∀ A2 d, w.ownsRow B 5 1 (.slice A2 (n + m) d) (n + m) (xs ++ ys) → w'.ownsRow B 5 1 (.slice A2 (n + m) d) (n + m) (xs ++ ys)
theorem NO.of_gr {B : Nat} {A : Option Addr} {n c m : Nat} {xs ys : List Value} {w w' : World} (h : Gr w w') : NO B A n c m xs ys w w' := ⟨Tn.of_gr h, fun k => Gr.own h k, fun _ _ k => Gr.own h k⟩
theorem NO.refl (B : Nat) (A : Option Addr) (n c m : Nat) (xs ys : List Value) (w : World) : NO B A n c m xs ys w w := NO.of_gr (Gr.refl w)
theorem NO.trans {B : Nat} {A : Option Addr} {n c m : Nat} {xs ys : List Value} {a b d : World} (h : NO B A n c m xs ys a b) (k : NO B A n c m xs ys b d) : NO B A n c m xs ys a d := ⟨h.tn.trans k.tn, fun q => k.old (h.old q), fun A2 d q => k.new A2 d (h.new A2 d q)⟩
def HiV (S k : Nat) (l : List UInt8) (v : Value) (w : World) : Prop := ∃ A c, v = .slice A k c ∧ w.ownsRow S 5 1 (.slice A k c) k (u8s l)
def NewO (B S n : Nat) (A : Option Addr) (xs : List Value) (v : Value) (w : World) : Prop := ∃ A2 c, v = .slice A2 n c ∧ w.ownsRow B 5 1 (.slice A2 n c) n xs ∧ (A2 = A ∨ ∀ ad, A2 = some ad → S ≤ ad.block)
theorem own_farT {S B : Nat} {e e2 : TypeId} {size n c : Nat} {A X : Option Addr} {xs : List Value} {w w' : World} (ho : w.ownsRow S e size (.slice X n c) n xs) (hT : Tn (blkT A e2) B w w') (hA : ∀ ad, A = some ad → ad.block < S) : w'.ownsRow S e size (.slice X n c) n xs := by
  refine ⟨ho.1, ?_⟩; rcases ho.2 with h | ⟨b, cap, cur, e1, h1, h2, h3⟩
  · exact .inl h
  · have hb : b < w.heap.size := by
      rcases Nat.lt_or_ge b w.heap.size with h | h
      · exact h
      · rw [Array.getElem?_eq_none h] at h2; cases h2
    exact .inr ⟨b, cap, cur, e1, h1, by rw [hT.block b hb (.inr (by rw [h2]; show blkT A e2 b (.cells cur e (0, 0)) = false; exact blkT_far (fun ad h => by have := hA ad h; omega) _))]; exact h2, h3⟩
theorem HiV.no {S B k : Nat} {l : List UInt8} {v : Value} {A : Option Addr} {n c m : Nat} {xs ys : List Value} {w w' : World} (h : HiV S k l v w) (hA : ∀ ad, A = some ad → ad.block < S) (hG : NO B A n c m xs ys w w') : HiV S k l v w' := by
  obtain ⟨X, d, e, ho⟩ := h; exact ⟨X, d, e, own_farT ho hG.tn hA⟩
theorem NewO.no {B S m : Nat} {v : Value} {A A0 : Option Addr} {n c : Nat} {xs ys : List Value} {w w' : World} (h : NewO B S (n + m) A0 (xs ++ ys) v w) (hG : NO B A n c m xs ys w w') : NewO B S (n + m) A0 (xs ++ ys) v w' := by
  obtain ⟨A2, d, e, ho, hl⟩ := h; exact ⟨A2, d, e, hG.new A2 d ho, hl⟩
section
variable {P : Program} {w : World}
theorem run_append_keepL (base : Nat) (t ty e : TypeId) (i : TypeInfo) (z : Value) (size bytes : Nat) (ht : P.underlying t = some (.slice e)) (hi : P.info? e = some i) (hz : i.zero = some z)
    (hsize : i.size = size) (hby : i.bytes = bytes) (hzs : z.cells.size = size) (hsz : 0 < size) (A : Option Addr) (n c : Nat) (xs : List Value) (hown : w.ownsRow base e size (.slice A n c) n xs)
    (a : Addr) (m c2 : Nat) (news : List Value) (hl : news.length = m * size) (hnews : ∀ j u, news[j]? = some u → w.cell? (a.add j) = some u) (h1 : ∀ u ∈ news, u.oneCell' = true)
    (h63 : n + m ≤ maxLen) (hbytes : (n + m) * bytes ≤ 140737488355328) (hbase : base ≤ w.heap.size) :
    ∃ A' c' w', (Builtin.append_ #[t, t] ty #[.slice A n c, .slice (some a) m c2]).run P w = .ok (.slice A' (n + m) c') w' ∧ w'.ownsRow base e size (.slice A' (n + m) c') (n + m) (xs ++ news) ∧
      Tn (blkT A e) base w w' ∧ w'.ownsRow base e size (.slice A n c) n xs ∧ (∀ A2 d, w.ownsRow base e size (.slice A2 (n + m) d) (n + m) (xs ++ news) → w'.ownsRow base e size (.slice A2 (n + m) d) (n + m) (xs ++ news)) ∧ (A' = A ∨ ∀ ad, A' = some ad → w.heap.size ≤ ad.block) := by
  obtain ⟨A', c', w', hr, h2, hT, hold, hnew⟩ := run_append_keep (P := P) (w := w) base t ty e i z size bytes ht hi hz hsize hby hzs hsz A n c xs hown a m c2 news hl hnews h1 h63 hbytes hbase; obtain ⟨v2, w2, hr2, _, _, _, h5⟩ := run_append_own_at (P := P) w base t ty e i z size bytes ht hi hz hsize hby hzs hsz _ n xs hown a m c2 news hl hnews h1 h63 hbytes hbase; rw [hr] at hr2; injection hr2 with e1 e2
  subst e1; subst e2; refine ⟨A', c', w', hr, h2, hT, hold, hnew, ?_⟩; rcases h5 with h5 | h5
  · rcases h2.2 with ⟨q1, _⟩ | ⟨g, cap, cur, q1, _⟩
    · injection q1 with q1
      subst q1; exact .inr fun ad h => by cases h
    · injection q1 with q1
      rcases hown.2 with ⟨r1, _⟩ | ⟨g2, cap2, cur2, r1, _⟩
      · injection r1 with r1
        rw [q1, r1] at h5; simp [Value.ownBlock] at h5
      · injection r1 with r1
        rw [q1, r1] at h5; simp [Value.ownBlock] at h5; exact .inl (by rw [q1, r1, h5])
  · refine .inr fun ad h => ?_; rw [h] at h5; simp [Value.ownBlock] at h5; omega
end
theorem wpList_appL {P : Program} (w : World) {ops : Array Oper} {rest : List Oper} {o : Oper} {a : Act} {Q : Exit → Act → World → Prop} (hgd : o.guard = none) (s x : Operand) (t : TypeId)
    (ho : o.op = .call { callee := .builtin .append, args := #[s, x], argTypes := #[t, t] })
    (base : Nat) (e : TypeId) (i : TypeInfo) (z : Value) (bytes : Nat) (ht : P.underlying t = some (.slice e)) (hi : P.info? e = some i) (hz : i.zero = some z)
    (hsize : i.size = 1) (hby : i.bytes = bytes) (hzs : z.cells.size = 1) {A : Option Addr} {n c : Nat} {xs : List Value} (hs : a.eval s = .slice A n c) (hown : w.ownsRow base e 1 (.slice A n c) n xs)
    {X : Option Addr} {m c2 : Nat} (hx : a.eval x = .slice X m c2) (news : List Value) (hr : Rd w X m news) (h1 : ∀ u ∈ news, u.oneCell' = true)
    (hbytes : (n + m) * bytes ≤ 140737488355328) (h63 : n + m ≤ maxLen) (hbase : base ≤ w.heap.size)
    (hK : ∀ A' c' w', w'.ownsRow base e 1 (.slice A' (n + m) c') (n + m) (xs ++ news) → Tn (blkT A e) base w w' → (A' = A ∨ ∀ ad, A' = some ad → w.heap.size ≤ ad.block) → wpList P ops Q rest (a.put o.dst (.slice A' (n + m) c')) w') : wpList P ops Q (o :: rest) a w := by
  rcases X with _ | ad
  · have hn : news = [] := by
      cases news with
      | nil => rfl
      | cons u news =>
        obtain ⟨_, e, _⟩ := hr.2 0 u rfl; cases e
    subst hn; have h0 : m = 0 := by simpa using hr.1.symm
    subst h0
    have e0 : (Builtin.append_ #[t, t] o.type #[.slice A n c, .slice none 0 c2]).run P w = .ok (.slice A n c) w := by
      rcases hown.2 with ⟨h, h'⟩ | ⟨g, cap, cur, h, _, _, hnc, _⟩
      · rw [h]; simp [Builtin.append_, run_underlying ht, sizeOf, typeInfo, hi, Builtin.lenOf, Builtin.firstCells]
      · rw [h]; simp [Builtin.append_, run_underlying ht, sizeOf, typeInfo, hi, Builtin.lenOf, Builtin.firstCells, hnc, storeCells]
    refine wpList_plain hgd fun _ hKK => ?_; unfold Oper.wp execOp; simp only [ho, resolve, invoke, builtin, Sem.run_bind, Sem.run_pure, Result.andThen_ok, List.map_toArray, List.map_cons, List.map_nil, hs, hx, e0]; exact hKK _ _ (hK A c w (by simpa using hown) (Tn.refl w) (.inl rfl))
  · obtain ⟨A', c', w', hrun, h2, h3, _, _, h5⟩ := run_append_keepL (P := P) (w := w) base t o.type e i z 1 bytes ht hi hz hsize hby hzs (by omega) A n c xs hown ad m c2 news (by rw [Nat.mul_one]; exact hr.1)
      (fun j u hu => by obtain ⟨ad', e, hc⟩ := hr.2 j u hu; injection e with e; subst e; exact hc) h1 h63 hbytes hbase
    refine wpList_plain hgd fun _ hKK => ?_; unfold Oper.wp execOp; simp only [ho, resolve, invoke, builtin, Sem.run_bind, Sem.run_pure, Result.andThen_ok, List.map_toArray, List.map_cons, List.map_nil, hs, hx, hrun]; exact hKK _ _ (hK A' c' w' h2 h3 h5)
theorem out_end {B g n m c : Nat} {A A8 : Option Addr} {c8 : Nat} {L M : List UInt8} {w w1 w9 : World} (hB : B ≤ w.heap.size) (hO : OutIs w B g A c L) (hm : M.length = m) (hn : L.length = n) (hT : Tn (blkT A 5) B w w1) (hl : A8 = A ∨ ∀ ad, A8 = some ad → w.heap.size ≤ ad.block)
    (ho8 : w1.ownsRow B 5 1 (.slice A8 (n + m) c8) (n + m) (u8s L ++ u8s M)) (hw9 : w9 = w1.setCell ⟨g, 0, none⟩ (.slice A8 (n + m) c8)) (hA9 : Arr w9 g 178 [.slice A8 (n + m) c8, .bool false]) : OutIs w9 B g A8 c8 (L ++ M) ∧ OutK B g A A8 w w9 := by
  have hA1 : Arr w1 g 178 [.slice A L.length c, .bool false] := hO.arr.tn hT (fun C f => blkT_other rfl _ C f); have hlen : (L ++ M).length = n + m := by rw [List.length_append, hm, hn]
  have hg1 := hA1.lt; refine ⟨⟨by rw [hlen]; exact hA9, ?_, hO.at_⟩, ?_, ?_⟩
  · rw [hlen, u8s_append]; exact own_keep2 ho8 hA1 (by decide) 0 _ hw9
  · refine (hT.below hB).trans ?_; subst hw9; exact ⟨rfl, rfl, rfl, by simp, fun k hk => heap_setCell_other w1 ⟨g, 0, none⟩ k _ (by have := hO.at_; simp only; omega)⟩
  · intro k hk hkg hA; constructor
    · subst hw9; rw [heap_setCell_other w1 ⟨g, 0, none⟩ k _ (by simp only; omega)]; refine hT.block k hk (.inr ?_); cases hw : w.heap[k]? with
      | none => rfl
      | some o => exact blkT_far (fun ad h => hA ad h) _
    · intro ad h; rcases hl with e | e
      · exact hA ad (by rw [← e]; exact h)
      · have := e ad h; omega
set_option maxRecDepth 100000 in
set_option maxHeartbeats 4000000 in
theorem put_any {B g c x k : Nat} {A : Option Addr} {L : List UInt8} {w : World} (hO : OutIs w B g A c L) (hB : B ≤ w.heap.size) (hx : x < 9223372036854775808) (hk : 1 ≤ k ∧ k ≤ 8) (hL : L.length ≤ 1000000) :
    Calls Tryz.prog 132 #[.pointer (some ⟨g, 0, none⟩), .int .i64 (x : Int), .int .i64 (k : Int), .bool true] w fun e w' => PutQ B g A (L ++ hiB k x) w e w' := by
  obtain ⟨i0, hi0, hz0, hz1, hz2⟩ := info_parts Tryz.info5; obtain ⟨hk1, hk8⟩ := hk; have HP := Lib.hid (fun w1 : World => putHigh_k x k (by omega) (by omega) w1); have HM : Hid ((hiB k x).length = k) := Lib.hid (hiB_length k x); change Hid (∀ w1 : World, Calls Tryz.prog 43 #[.int .u64 (x : Int), .int .i64 (k : Int)] w1 fun e w' => ∃ v, e = .returned v ∧ w'.ownsRow w1.heap.size 5 1 v k (u8s (hiB k x)) ∧ Below w1.heap.size w1 w') at HP; generalize hiB k x = M at HP HM ⊢; have hxi : IntKind.u64.wrap (x : Int) = (x : Int) := by rw [IntKind.wrap_u64]; omega
  have HO := Lib.hid hO; have hOa := hO.arr; have hOo := hO.own; have hlt := own_lt hOo; clear hO
  go_enter Tryz.func132, Tryz.ntmps132
  go_upto_region 1 with fail
  have hcell : ∀ w1, NO B A L.length c k (u8s L) (u8s M) w.drew w1 → w1.cell? ⟨g, 0, none⟩ = some (.slice A L.length c) := fun w1 hG =>
    (hOa.tn ((Tn.of_gr (Gr.drew w)).trans hG.tn) (fun C f => blkT_other rfl _ C f)).cell (i := 0) (v := .slice A L.length c) rfl
  refine wp_region_cutG (NO B A L.length c k (u8s L) (u8s M)) (NO.refl _ _ _ _ _ _ _) (fun _ _ _ => NO.trans) (by kernel_rfl) [IsV (.pointer (some ⟨g, 0, none⟩)), IsV (.pointer (some ⟨g, 0, none⟩)), IsV (.pointer (some ⟨g, 0, none⟩)), IsV (.pointer (some ⟨g, 0, none⟩)), IsV (.slice A L.length c), IsV (.int .i64 (x : Int)), IsV (.int .u64 (x : Int)), IsV (.int .i64 (k : Int)), HiV w.heap.size k M, NewO B w.heap.size (L.length + k) A (u8s L ++ u8s M), IsV (.pointer (some ⟨g, 0, none⟩)), IsV (.pointer (some ⟨g, 0, none⟩))] 12 (by decide) (by kernel_rfl) (by kernel_rfl) (by kernel_rfl) ?_ ?_ ?_
  · intro φ hφ v w1 w2 h hg; simp only [List.mem_cons, List.not_mem_nil, or_false] at hφ; rcases hφ with rfl | rfl | rfl | rfl | rfl | rfl | rfl | rfl | rfl | rfl | rfl | rfl
    all_goals first | exact h | exact HiV.no h hlt hg | exact NewO.no h hg
  · refine ⟨?_, ?_, ?_, ?_, ?_, ?_, ?_, ?_, ?_, ?_, ?_, ?_, trivial⟩
    · intro a1 w1 hG hF; exact gstep (fun _ h => NO.of_gr h) (s_old rfl (wants0 rfl) (.tmp 0) (.inr rfl) (.pointer (some ⟨g, 0, none⟩)) (hF.ol 0 (by kernel_rfl)) rfl)
    · intro a1 w1 hG hF; exact gstep (fun _ h => NO.of_gr h) (s_old rfl (wants0 rfl) (.tmp 0) (.inr rfl) (.pointer (some ⟨g, 0, none⟩)) (hF.ol 0 (by kernel_rfl)) rfl)
    · intro a1 w1 hG hF; obtain ⟨_, e10, rfl⟩ := hF.dp 1 10 (by kernel_rfl); exact gstep (fun _ h => NO.of_gr h) (s_is rfl (wants0 rfl) _ rfl (run_nil e10))
    · intro a1 w1 hG hF; obtain ⟨_, e11, rfl⟩ := hF.dp 2 11 (by kernel_rfl); exact gstep (fun _ h => NO.of_gr h) (s_is rfl (wants0 rfl) _ rfl (run_fieldR (o := 0) (k := 0) Tryz.underlying178 rfl rfl (by kernel_rfl) e11))
    · intro a1 w1 hG hF; obtain ⟨_, e12, rfl⟩ := hF.dp 3 12 (by kernel_rfl); exact gstep (fun _ h => NO.of_gr h) (s_is rfl (wants0 rfl) _ rfl (run_load1B (.inr (.inr (.inr (.inl ⟨_, Tryz.underlying43⟩)))) e12 (hcell w1 hG)))
    · intro a1 w1 hG hF; exact gstep (fun _ h => NO.of_gr h) (s_old rfl (wants0 rfl) (.tmp 1) (.inr rfl) (.int .i64 (x : Int)) (hF.ol 1 (by kernel_rfl)) rfl)
    · intro a1 w1 hG hF; obtain ⟨_, e14, rfl⟩ := hF.dp 5 14 (by kernel_rfl); exact gstep (fun _ h => NO.of_gr h) (s_is rfl (wants0 rfl) _ rfl (by simp only [execOp, e14]; go_simp))
    · intro a1 w1 hG hF; exact gstep (fun _ h => NO.of_gr h) (s_old rfl (wants0 rfl) (.tmp 2) (.inr rfl) (.int .i64 (k : Int)) (hF.ol 2 (by kernel_rfl)) rfl)
    · intro a1 w1 hG hF; obtain ⟨_, e15, rfl⟩ := hF.dp 6 15 (by kernel_rfl); obtain ⟨_, e16, rfl⟩ := hF.dp 7 16 (by kernel_rfl)
      exact gstep (fun _ h => NO.of_gr h) (s_call rfl (wants0 rfl) _ rfl _ _ (by simp only [execOp, resolve, invoke, List.map_toArray, List.map_cons, List.map_nil, e15, e16]; go_simp) ((HP.out w1).mono fun e w2 ⟨v, he, ho, hb⟩ => by
        obtain ⟨A4, c4, rfl, _, _⟩ := own_form ho; exact ⟨_, he, ⟨A4, c4, rfl, own_base2 ho hG.tn.size⟩, hb⟩))
    · intro a1 w1 hG hF; obtain ⟨_, e13, rfl⟩ := hF.dp 4 13 (by kernel_rfl); obtain ⟨x17, e17, X, d, rfl, hX⟩ := hF.dp 8 17 (by kernel_rfl); have hs1 : B ≤ w1.heap.size := Nat.le_trans hB hG.tn.size; have ho1 := hG.old (Gr.own (Gr.drew w) hOo)
      obtain ⟨ad, hXa, hXc⟩ : ∃ ad, X = some ad ∧ ∀ j u, (u8s M)[j]? = some u → w1.cell? (ad.add j) = some u := by
        have hr := Rd.of_own hX; obtain ⟨ad, u, e, _, _⟩ := hr.at_ (k := 0) (by omega); refine ⟨ad, e, fun j u hj => ?_⟩; obtain ⟨ad2, e2, hc⟩ := hr.2 j u hj; rw [e] at e2; injection e2 with e2
        rw [e2]; exact hc
      subst hXa; obtain ⟨A', c', w', hr, h2, hT, hold, hnew, hl⟩ := run_append_keepL (P := Tryz.prog) (w := w1) B 43 43 5 i0 (.int .u8 0) 1 1 Tryz.underlying43 hi0 hz0 hz1 hz2 rfl (by omega) A L.length c (u8s L) ho1 ad k d (u8s M) (by rw [u8s_length, HM.out, Nat.mul_one]) hXc (u8s_oneCell _) (by unfold maxLen; omega) (by omega) hs1; exact g_valW rfl rfl (.slice A' (L.length + k) c') w' (by simp only [execOp, resolve, invoke, builtin, List.map_toArray, List.map_cons, List.map_nil, e13, e17, Sem.run_bind, Sem.run_pure, hr, Result.andThen_ok]) ⟨A', c', rfl, h2, hl.imp id fun h ad e => Nat.le_trans hG.tn.size (h ad e)⟩ ⟨hT, fun _ => hold, fun A2 d h => hnew A2 d h⟩
    · intro a1 w1 hG hF; obtain ⟨_, e9, rfl⟩ := hF.dp 0 9 (by kernel_rfl); exact gstep (fun _ h => NO.of_gr h) (s_is rfl (wants0 rfl) _ rfl (run_nil e9))
    · intro a1 w1 hG hF; obtain ⟨_, e19, rfl⟩ := hF.dp 10 19 (by kernel_rfl); exact gstep (fun _ h => NO.of_gr h) (s_is rfl (wants0 rfl) _ rfl (run_fieldR (o := 0) (k := 0) Tryz.underlying178 rfl rfl (by kernel_rfl) e19))
  · intro vs w1 hG hf; have y18 : (NewO B w.heap.size (L.length + k) A (u8s L ++ u8s M)) (vs 9) w1 := hf.2.2.2.2.2.2.2.2.2.1; have z20 : vs 11 = .pointer (some ⟨g, 0, none⟩) := hf.2.2.2.2.2.2.2.2.2.2.2.1; clear hf; obtain ⟨A8, c8, hy18, ho8, hl8⟩ := y18; have hT : Tn (blkT A 5) B w w1 := (Tn.of_gr (Gr.drew w)).trans hG.tn; have hA8 := hOa.tn hT (fun C f => blkT_other rfl _ C f); simp only [List.take_succ_cons, List.take_zero, List.drop_succ_cons, List.drop_zero, putAll, Nat.zero_add, Nat.reduceAdd, hy18, z20]; clear hG hy18 z20; refine wpList_setSl (A := A8) (n := L.length + k) (c := c8) hA8 rfl 43 (.tmp 20) (.tmp 18) rfl (by kernel_rfl) 0 (by kernel_rfl) (by kernel_rfl) (by simp) ?_; intro w9 hw9 hA9; have HE := Lib.hid (out_end hB HO.out HM.out rfl hT hl8 ho8 hw9 hA9); clear hw9 hA9 hT hA8 ho8 hl8 hOa hOo hlt hcell HP; unfold wpList; go_simp; go_wp2_with fail
    go_ret
    exact ⟨A8, c8, rfl, HE.out.1, HE.out.2⟩
set_option maxRecDepth 100000 in
set_option maxHeartbeats 4000000 in
theorem num_any {B g c x : Nat} {A : Option Addr} {L : List UInt8} {w : World} (hO : OutIs w B g A c L) (hB : B ≤ w.heap.size) (hx : x < 9223372036854775808) (hL : L.length ≤ 1000000) :
    Calls Tryz.prog 98 #[.pointer (some ⟨g, 0, none⟩), .int .i64 (x : Int)] w fun e w' => PutQ B g A (L ++ hiB 8 x) w e w' := by
  have HP := Lib.hid (put_any hO hB hx (k := 8) (by omega) hL); have h0 : (0 : Int) ≤ (x : Int) := by omega
  clear hO
  go_enter Tryz.func98, Tryz.ntmps98
  go_wp2_with (go_at_call 132; refine HP.out.mono ?_; rintro e w1 ⟨A1, c1, rfl, hO1, hK1⟩)
  go_ret
  exact ⟨A1, c1, rfl, hO1, hK1⟩
set_option maxRecDepth 100000 in
set_option maxHeartbeats 4000000 in
theorem small_any {B g c x : Nat} {A : Option Addr} {L : List UInt8} {w : World} (hO : OutIs w B g A c L) (hB : B ≤ w.heap.size) (hx : x < 256) (hL : L.length ≤ 1000000) :
    Calls Tryz.prog 96 #[.pointer (some ⟨g, 0, none⟩), .int .i64 (x : Int)] w fun e w' => PutQ B g A (L ++ hiB 1 x) w e w' := by
  have HP := Lib.hid (put_any hO hB (x := x) (by omega) (k := 1) (by omega) hL); have HY := Lib.hid (fun w1 => byte_yes (x : Int) (by omega) (by omega) w1); clear hO
  go_enter Tryz.func96, Tryz.ntmps96
  go_wp2_with first
    | (go_at_call 131; refine (HY.out w).mono ?_; rintro e w2 ⟨rfl, rfl⟩)
    | (go_at_call 132; refine HP.out.mono ?_; rintro e w1 ⟨A1, c1, rfl, hO1, hK1⟩)
  go_ret
  exact ⟨A1, c1, rfl, hO1, hK1⟩
set_option maxRecDepth 100000 in
set_option maxHeartbeats 4000000 in
theorem fixed_any {B g c m cX : Nat} {A X : Option Addr} {L M : List UInt8} {w : World} (hO : OutIs w B g A c L) (hB : B ≤ w.heap.size) (hL : L.length ≤ 1000000) (hM : M.length = m) (hm : m ≤ 1000000) (hX : Rd w X m (u8s M)) :
    Calls Tryz.prog 117 #[.pointer (some ⟨g, 0, none⟩), .slice X m cX] w fun e w' => PutQ B g A (L ++ M) w e w' := by
  obtain ⟨i0, hi0, hz0, hz1, hz2⟩ := info_parts Tryz.info5; have HO := Lib.hid hO; have hOa := hO.arr; have hOo := hO.own; have hc0 := hOa.cell (i := 0) (v := .slice A L.length c) rfl; clear hO
  go_enter Tryz.func117, Tryz.ntmps117
  go_wp2_with first
    | (at_builtin; go_must (refine wpList_appL _ rfl (.tmp 11) (.tmp 12) 43 rfl B 5 i0 (.int .u8 0) 1 Tryz.underlying43 hi0 hz0 hz1 hz2 rfl rfl hOo rfl (u8s M) hX (u8s_oneCell _) (by omega) (by unfold maxLen; omega) hB ?_; intro A8 c8 w1 ho8 hT hl8; have hA8 := hOa.tn hT (fun C f => blkT_other rfl _ C f)))
    | (refine wpList_setSl (A := A8) (n := L.length + m) (c := c8) hA8 rfl 43 (.tmp 15) (.tmp 13) rfl (by kernel_rfl) 0 (by kernel_rfl) (by kernel_rfl) (by simp) ?_; intro w9 hw9 hA9; have HE := Lib.hid (out_end hB HO.out hM rfl hT hl8 ho8 hw9 hA9); clear hw9 hA9 hT hA8 ho8 hl8)
  go_ret
  exact ⟨A8, c8, rfl, HE.out.1, HE.out.2⟩
def ApartO (w : World) (X : Option Addr) (m : Nat) (A : Option Addr) (g : Nat) : Prop := 0 < m → ∀ ad, X = some ad → ad.block < w.heap.size ∧ ad.block ≠ g ∧ ∀ ad', A = some ad' → ad'.block ≠ ad.block
theorem ApartO.rd {B g m : Nat} {X A A' : Option Addr} {w w' : World} {xs : List Value} (h : ApartO w X m A g) (hK : OutK B g A A' w w') (hr : Rd w X m xs) : ApartO w' X m A' g ∧ Rd w' X m xs := by
  refine ⟨fun h0 ad e => ?_, ⟨hr.1, fun j u hj => ?_⟩⟩
  · obtain ⟨h1, h2, h3⟩ := h h0 ad e; obtain ⟨_, h4⟩ := hK.other ad.block h1 h2 h3; exact ⟨Nat.lt_of_lt_of_le h1 hK.below.size, h2, h4⟩
  · obtain ⟨ad, e, hc⟩ := hr.2 j u hj
    have h0 : 0 < m := by
      have := (List.getElem?_eq_some_iff.1 hj).1; rw [hr.1] at this; omega
    obtain ⟨h1, h2, h3⟩ := h h0 ad e; have hb : (ad.add j).block = ad.block := by unfold Addr.add; split <;> rfl
    exact ⟨ad, e, (World.cell?_of_block (by rw [hb]; exact (hK.other ad.block h1 h2 h3).1)).trans hc⟩
theorem ApartO.old {B g m : Nat} {X A : Option Addr} {w0 w : World} {xs : List Value} (hr : Rd w0 X m xs) (h0 : w0.heap.size ≤ B) (hB : B ≤ w.heap.size) (hg : B ≤ g) (hA : ∀ ad, A = some ad → B ≤ ad.block) : ApartO w X m A g := by
  intro hm ad e; obtain ⟨ad2, u, e2, _, hc⟩ := hr.at_ hm; rw [e] at e2; injection e2 with e2
  subst e2
  have hlt : ad.block < w0.heap.size := by
    have hb : (ad.add 0).block = ad.block := by unfold Addr.add; split <;> rfl
    rcases Nat.lt_or_ge ad.block w0.heap.size with h' | h'
    · exact h'
    · simp [World.cell?, hb, Array.getElem?_eq_none h'] at hc
  exact ⟨by omega, by omega, fun ad' e' => by have := hA ad' e'; omega⟩
theorem OutIs.base {w : World} {B g c : Nat} {A : Option Addr} {L : List UInt8} (h : OutIs w B g A c L) : ∀ ad, A = some ad → B ≤ ad.block := by
  intro ad e; rcases h.own.2 with ⟨e1, _⟩ | ⟨b, cap, cur, e1, h1, _⟩
  · injection e1 with e1
    rw [e] at e1; cases e1
  · injection e1 with e1
    rw [e] at e1; injection e1 with e1
    subst e1; exact h1
def outBs (l : List UInt8) : List UInt8 := hiB 4 l.length ++ l
set_option maxRecDepth 100000 in
set_option maxHeartbeats 4000000 in
theorem bytes_any {B g c m cX : Nat} {A X : Option Addr} {L M : List UInt8} {w : World} (hO : OutIs w B g A c L) (hB : B ≤ w.heap.size) (hL : L.length ≤ 900000) (hM : M.length = m) (hm : m ≤ 1000000) (hX : Rd w X m (u8s M)) (hap : ApartO w X m A g) :
    Calls Tryz.prog 99 #[.pointer (some ⟨g, 0, none⟩), .slice X m cX] w fun e w' => PutQ B g A (L ++ outBs M) w e w' := by
  have HP := Lib.hid (put_any hO hB (x := m) (by omega) (k := 4) (by omega) (by omega)); have HF := Lib.hid (fun (w1 : World) (A1 : Option Addr) (c1 : Nat) (h : OutIs w1 B g A1 c1 (L ++ hiB 4 m)) (hK : OutK B g A A1 w w1) => fixed_any (cX := cX) h (Nat.le_trans hB hK.below.size) (by rw [List.length_append, hiB_length]; omega) hM hm (hap.rd hK hX).2); have HR : Hid ((L ++ hiB 4 m) ++ M = L ++ outBs M) := Lib.hid (by rw [List.append_assoc, outBs, hM]); rw [← HR.out]; clear hO hX hap
  go_enter Tryz.func99, Tryz.ntmps99
  go_wp2_with first
    | (go_at_call 132; refine HP.out.mono ?_; rintro e w1 ⟨A1, c1, rfl, hO1, hK1⟩)
    | (go_at_call 117; refine (HF.out w1 A1 c1 hO1 hK1).mono ?_; rintro e w2 ⟨A2, c2, rfl, hO2, hK2⟩)
  go_ret
  exact ⟨A2, c2, rfl, hO2, hK1.trans hK2⟩
def DoneQ (L : List UInt8) (w : World) (e : Ending) (w' : World) : Prop := ∃ A c, e = .returned (.tuple #[.slice A L.length c, .int .i64 0]) ∧ w'.ownsRow w.heap.size 5 1 (.slice A L.length c) L.length (u8s L) ∧ (A = none → c = 0) ∧ Gr w w'
set_option maxRecDepth 100000 in
set_option maxHeartbeats 4000000 in
theorem done_any {B g c : Nat} {A : Option Addr} {L : List UInt8} {w : World} (hO : OutIs w B g A c L) (hL : L.length ≤ 1000000) :
    Calls Tryz.prog 100 #[.pointer (some ⟨g, 0, none⟩)] w fun e w' => DoneQ L w e w' := by
  have hc0 := hO.arr.cell (i := 0) (v := .slice A L.length c) rfl; have hc1 := hO.arr.cell (i := 1) (v := .bool false) rfl
  have HC := Lib.hid (bclone_any (c := c) hL (Rd.of_own hO.own) (fun e => by
    rcases hO.own.2 with ⟨e1, _⟩ | ⟨g, cap, cur, e1, _⟩
    · injection e1
    · injection e1 with e1
      rw [e] at e1; cases e1))
  clear hO
  go_enter Tryz.func100, Tryz.ntmps100
  go_wp2_with (go_at_call 79; refine HC.out.mono ?_; rintro e w1 ⟨A1, c1, rfl, hO1, hn1, hG1⟩; have HO1 := Lib.hid hO1; have HN1 := Lib.hid hn1; clear hO1 hn1)
  go_ret2
  exact ⟨A1, c1, rfl, HO1.out, HN1.out, hG1⟩
end Go.Proofs.YtjpphldojbfpfaaGreatDoor
