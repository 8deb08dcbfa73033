/- Places in memory; turns handed in. No condition. -/
import Derived.Test.YteckblffpidigaaGreatDoorMtLawP
import Derived.Test.YteckblffpidigaaGreatDoorMtStands
import Derived.Test.YteckblffpidigaaGreatDoorMtPut
import Derived.Test.YteckblffpidigaaGreatDoorMtSeen
import Derived.Test.YteckblffpidigaaGreatDoorMtSWr
import Derived.Test.YteckblffpidigaaGreatDoorMtSRd
namespace Go.Proofs.YteckblffpidigaaGreatDoor
open Go.RowKit
/-- A place's siblings in memory, apart from the row of all writes' dots. -/
structure PlaceS (w : World) (B : Nat) (A5 : Option Addr) (v : Value) (L : List SibV) : Prop where
  ex : ∃ A n c, v = .slice A n c ∧ SibsR w A n L ∧ ∀ b, InB A L b → B ≤ b ∧ b < w.heap.size ∧ ∀ ad, A5 = some ad → ad.block ≠ b
theorem SibsR.keep {w w' : World} {A : Option Addr} {n : Nat} {L : List SibV} (h : SibsR w A n L) (hk : ∀ b, InB A L b → b < w.heap.size → w'.heap[b]? = w.heap[b]?) : SibsR w' A n L := by
  have hc : ∀ (b : Nat) (a : Addr) (u : Value), a.block = b → InB A L b → w.cell? a = some u → w'.cell? a = some u := by
    intro b a u e hb hc
    have hlt : a.block < w.heap.size := by
      rcases Nat.lt_or_ge a.block w.heap.size with h' | h'
      · exact h'
      · simp [World.cell?, Array.getElem?_eq_none h'] at hc
    subst e
    exact (World.cell?_of_block (hk _ hb hlt)).trans hc
  refine ⟨h.1, fun i x hx => ?_⟩
  obtain ⟨⟨b, o, e, hr⟩, hs⟩ := h.2 i x hx
  have hxm := List.mem_of_getElem? hx
  refine ⟨⟨b, o, e, fun j u hu => hc b _ u rfl (.inl ⟨_, e, rfl⟩) (hr j u hu)⟩, hs.right, hs.ctx, hs.fresh, hs.small, ⟨hs.dots.1, fun j d hd => ?_⟩, hs.nil, ⟨hs.bytes.1, fun j u hu => ?_⟩, hs.nilY⟩
  · obtain ⟨b2, o2, e2, hr2⟩ := hs.dots.2 j d hd
    exact ⟨b2, o2, e2, fun q u hu => hc b2 _ u rfl (.inr ⟨x, hxm, .inl ⟨_, e2, rfl⟩⟩) (hr2 q u hu)⟩
  · obtain ⟨ad, e2, hu2⟩ := hs.bytes.2 j u hu
    have hb : (ad.add j).block = ad.block := by unfold Addr.add; split <;> rfl
    exact ⟨ad, e2, hc ad.block _ u hb (.inr ⟨x, hxm, .inr ⟨_, e2, rfl⟩⟩) hu2⟩
theorem PlaceS.gr {w w' : World} {B : Nat} {A5 : Option Addr} {v : Value} {L : List SibV} (h : PlaceS w B A5 v L) (hG : Gr w w') : PlaceS w' B A5 v L := by
  obtain ⟨A, n, c, e, hs, hb⟩ := h.ex
  exact ⟨A, n, c, e, hs.gr hG, fun b hib => ⟨(hb b hib).1, Nat.lt_of_lt_of_le (hb b hib).2.1 hG.size, (hb b hib).2.2⟩⟩
theorem PlaceS.ink {w w' : World} {B g : Nat} {A5 : Option Addr} {v : Value} {L : List SibV} (h : PlaceS w B A5 v L) (hK : InK g w w') (hg : g < B) : PlaceS w' B A5 v L := by
  obtain ⟨A, n, c, e, hs, hb⟩ := h.ex
  exact ⟨A, n, c, e, hs.keep fun b hib hlt => hK.other b hlt (by have := (hb b hib).1; omega), fun b hib => ⟨(hb b hib).1, Nat.lt_of_lt_of_le (hb b hib).2.1 hK.size, (hb b hib).2.2⟩⟩
theorem PlaceS.app {w w' : World} {B : Nat} {A5 A6 : Option Addr} {v : Value} {L : List SibV} {e : TypeId} (h : PlaceS w B A5 v L) (hT : Tn (blkT A5 e) B w w') (h6 : A6 = A5 ∨ ∀ ad, A6 = some ad → w.heap.size ≤ ad.block) : PlaceS w' B A6 v L := by
  obtain ⟨A, n, c, e1, hs, hb⟩ := h.ex
  refine ⟨A, n, c, e1, hs.keep fun b hib hlt => hT.block b hlt (.inr ?_), fun b hib => ⟨(hb b hib).1, Nat.lt_of_lt_of_le (hb b hib).2.1 hT.size, ?_⟩⟩
  · cases hw : w.heap[b]? with
    | none => rfl
    | some o => exact blkT_far (fun ad h => (hb b hib).2.2 ad h) _
  · intro ad ha
    rcases h6 with h6 | h6
    · rw [h6] at ha
      exact (hb b hib).2.2 ad ha
    · have := h6 ad ha
      have := (hb b hib).2.1
      omega
theorem PlaceS.nil (w : World) (B : Nat) (A5 : Option Addr) : PlaceS w B A5 (.slice none 0 0) [] := ⟨none, 0, 0, rfl, SibsR.nil _ _, fun b h => by
  rcases h with ⟨_, h, _⟩ | ⟨_, h, _⟩
  · cases h
  · cases h⟩
/-- A set that was just merged is a place's. -/
theorem PlaceS.new {w w' : World} {B n c : Nat} {A A5 : Option Addr} {L : List SibV} (hs : SibsR w' A n L) (hb : ∀ b, InB A L b → w.heap.size ≤ b ∧ b < w'.heap.size) (hB : B ≤ w.heap.size) (h5 : ∀ ad, A5 = some ad → ad.block < w.heap.size) : PlaceS w' B A5 (.slice A n c) L :=
  ⟨A, n, c, rfl, hs, fun b hib => ⟨Nat.le_trans hB (hb b hib).1, (hb b hib).2, fun ad e => by have := h5 ad e; have := (hb b hib).1; omega⟩⟩
def row3 (vs : Nat → Value) : List Value := [vs 0, vs 1, vs 2]
def upd {α : Type} (f : Nat → α) (k : Nat) (v : α) : Nat → α := fun j => if j = k then v else f j
theorem row3_at (vs : Nat → Value) {k : Nat} (hk : k < 3) : (row3 vs)[k]? = some (vs k) := by
  match k, hk with
  | 0, _ => rfl
  | 1, _ => rfl
  | 2, _ => rfl
theorem row3_set (vs : Nat → Value) {k : Nat} (hk : k < 3) (v : Value) : (row3 vs).set k v = row3 (upd vs k v) := by
  match k, hk with
  | 0, _ => rfl
  | 1, _ => rfl
  | 2, _ => rfl
def row4 (nx : Nat → Nat) : List Value := [.int .i64 (nx 0 : Int), .int .i64 (nx 1 : Int), .int .i64 (nx 2 : Int), .int .i64 (nx 3 : Int)]
theorem row4_at (nx : Nat → Nat) {k : Nat} (hk : k < 4) : (row4 nx)[k]? = some (.int .i64 (nx k : Int)) := by
  match k, hk with
  | 0, _ => rfl
  | 1, _ => rfl
  | 2, _ => rfl
  | 3, _ => rfl
theorem row4_set (nx : Nat → Nat) {k : Nat} (hk : k < 4) : (row4 nx).set k (.int .i64 ((nx k + 1 : Nat) : Int)) = row4 (nxSet nx k) := by
  match k, hk with
  | 0, _ => rfl
  | 1, _ => rfl
  | 2, _ => rfl
  | 3, _ => rfl
/-- A turn that was handed in. -/
structure TrnM where
  take : Bool
  at_ : Int
  of : Int
  cl : Int
  blind : Bool
def trnC (t : TrnM) : List Value := [.bool t.take, .int .i64 t.at_, .int .i64 t.of, .int .i64 t.cl, .bool t.blind]
def TrnRow (w : World) (A : Option Addr) (n : Nat) (f : Nat → TrnM) : Prop := ∀ i, i < n → ∃ b o, A = some ⟨b, o, none⟩ ∧ w.rangeAt b (o + i * 5) (trnC (f i))
theorem TrnRow.gr {w w' : World} {A : Option Addr} {n : Nat} {f : Nat → TrnM} (h : TrnRow w A n f) (hG : Gr w w') : TrnRow w' A n f := fun i hi => by
  obtain ⟨b, o, e, hr⟩ := h i hi
  exact ⟨b, o, e, hG.range hr⟩
theorem infoTrn (t : TrnM) : (Tryz.prog.info? 29).map (·.size) = some (trnC t).length := by
  show _ = some 5
  kernel_rfl
/-- The places, the numbers, all dots: what stands between the turns. -/
structure LawS (w0 : World) (B g3 g4 : Nat) (k : Nat) (W : List WrM) (nx : Nat → Nat) (Ls : Nat → List SibV) (v5 : Value) (w : World) : Prop where
  wr : WritesP W nx k
  place : ∀ j, j < 3 → PlaceP W (Ls j)
  union : ∀ x ∈ W, ∃ j, j < 3 ∧ covS (Ls j) x.1
  mem : ∃ (vs : Nat → Value) (A5 : Option Addr) (c5 : Nat), v5 = .slice A5 W.length c5 ∧ OwnD w B A5 W.length c5 (W.map (·.1)) ∧ (∀ j, j < 3 → PlaceS w B A5 (vs j) (Ls j)) ∧ Arr w g3 24 (row3 vs)
  num : Arr w g4 25 (row4 nx)
  gr : Gr w0 w
  size : B ≤ w.heap.size
theorem PlaceP.like {W : List WrM} {L L' : List SibV} (h : PlaceP W L) (e : L'.map keyV = L.map keyV) : PlaceP W L' := by
  have ek : L'.map keyW = L.map keyW := by
    have : ∀ L : List SibV, L.map keyW = (L.map keyV).map fun p => (p.1, p.2.1) := fun L => by rw [List.map_map]; rfl
    rw [this, this, e]
  refine ⟨by rw [ek]; exact h.set, fun x hx => ?_⟩
  have h1 : keyV x ∈ L.map keyV := by rw [← e]; exact List.mem_map.2 ⟨x, hx, rfl⟩
  obtain ⟨y, hy, ey⟩ := List.mem_map.1 h1
  have := h.bare y hy
  rw [← this]
  exact (congrArg (fun p => p.2.2) ey).symm
theorem cov_like {L L' : List SibV} (e : L'.map keyV = L.map keyV) (d : DotM) : covS L' d ↔ covS L d := by
  have ek : L'.map keyW = L.map keyW := by
    have : ∀ L : List SibV, L.map keyW = (L.map keyV).map fun p => (p.1, p.2.1) := fun L => by rw [List.map_map]; rfl
    rw [this, this, e]
  rw [← cov_keys, ← cov_keys, ek]
theorem PlaceP.okV {W : List WrM} {L : List SibV} (h : HistW W) (hL : PlaceP W L) : ∀ x ∈ L, OkV x := by
  intro x hx
  have hm := hL.set.mem (keyW x) (List.mem_map.2 ⟨x, hx, rfl⟩)
  refine ⟨h.right _ hm, h.ok _ hm, hL.set.anti _ (List.mem_map.2 ⟨x, hx, rfl⟩) _ (List.mem_map.2 ⟨x, hx, rfl⟩), ?_⟩
  rw [hL.bare x hx]
  exact Nat.zero_le _
theorem LawS.later {w0 w : World} {B g3 g4 k : Nat} {W : List WrM} {nx : Nat → Nat} {Ls : Nat → List SibV} {v5 : Value} (h : LawS w0 B g3 g4 k W nx Ls v5 w) : LawS w0 B g3 g4 (k + 1) W nx Ls v5 w := ⟨h.wr.later, h.place, h.union, h.mem, h.num, h.gr, h.size⟩
theorem LawS.grow {w0 w w' : World} {B g3 g4 k : Nat} {W : List WrM} {nx : Nat → Nat} {Ls : Nat → List SibV} {v5 : Value} (h : LawS w0 B g3 g4 k W nx Ls v5 w) (hG : Gr w w') : LawS w0 B g3 g4 k W nx Ls v5 w' := by
  obtain ⟨vs, A5, c5, e, hO, hp, hA⟩ := h.mem
  exact ⟨h.wr, h.place, h.union, ⟨vs, A5, c5, e, Gr.own hG hO, fun j hj => (hp j hj).gr hG, hA.gr hG⟩, h.num.gr hG, h.gr.trans hG, Nat.le_trans h.size hG.size⟩
theorem wpList_appKL {P : Program} (w : World) {ops : Array Oper} {rest : List Oper} {o : Oper} {a : Act} {Q : Exit → Act → World → Prop} (hgd : o.guard = none) (s x : Operand) (t : TypeId)
    (ho : o.op = .call { callee := .builtin .append, args := #[s, x], argTypes := #[t, t] })
    (base : Nat) (e : TypeId) (i : TypeInfo) (z : Value) (size bytes : Nat) (ht : P.underlying t = some (.slice e)) (hi : P.info? e = some i) (hz : i.zero = some z)
    (hsize : i.size = size) (hby : i.bytes = bytes) (hzs : z.cells.size = size) (hsz : 0 < size) {A : Option Addr} {n c : Nat} {xs : List Value} (hs : a.eval s = .slice A n c) (hown : w.ownsRow base e size (.slice A n c) n xs)
    (ad : Addr) (m c2 : Nat) (news : List Value) (hx : a.eval x = .slice (some ad) m c2) (hl : news.length = m * size) (hnews : ∀ j u, news[j]? = some u → w.cell? (ad.add j) = some u) (h1 : ∀ u ∈ news, u.oneCell' = true)
    (h63 : n + m ≤ maxLen) (hbytes : (n + m) * bytes ≤ 140737488355328) (hbase : base ≤ w.heap.size)
    (hK : ∀ A' c' w', w'.ownsRow base e size (.slice A' (n + m) c') (n + m) (xs ++ news) → Tn (blkT A e) base w w' → (A' = A ∨ ∀ ad, A' = some ad → w.heap.size ≤ ad.block) → wpList P ops Q rest (a.put o.dst (.slice A' (n + m) c')) w') : wpList P ops Q (o :: rest) a w := by
  obtain ⟨A', c', w', hr, h2, h3, _, _, h5⟩ := run_append_keepL (P := P) (w := w) base t o.type e i z size bytes ht hi hz hsize hby hzs hsz A n c xs hown ad m c2 news hl hnews h1 h63 hbytes hbase
  refine wpList_plain hgd fun _ hKK => ?_
  unfold Oper.wp execOp
  simp only [ho, resolve, invoke, builtin, Sem.run_bind, Sem.run_pure, Result.andThen_ok, List.map_toArray, List.map_cons, List.map_nil, hs, hx, hr]
  exact hKK _ _ (hK A' c' w' h2 h3 h5)
/-- What Put leaves. -/
def PutV (L1 : List SibV) (s : SibV) (B : Nat) (f : Option Addr → Nat → Nat → Value) (v : Value) (w : World) : Prop := ∃ (A : Option Addr) (n c : Nat) (L : List SibV), v = f A n c ∧ SibsR w A n L ∧ MergeOf L1 [s] L ∧ ∀ b, InB A L b → B ≤ b ∧ b < w.heap.size
theorem PutV.gr {L1 : List SibV} {s : SibV} {B : Nat} {f : Option Addr → Nat → Nat → Value} {v : Value} {w w' : World} (h : PutV L1 s B f v w) (hG : Gr w w') : PutV L1 s B f v w' := by
  obtain ⟨A, n, c, L, e, h1, h2, h3⟩ := h
  exact ⟨A, n, c, L, e, h1.gr hG, h2, fun b hb => ⟨(h3 b hb).1, Nat.lt_of_lt_of_le (h3 b hb).2 hG.size⟩⟩
def tupS (A : Option Addr) (n c : Nat) : Value := .tuple #[.slice A n c, .int .i64 0]
def sliS (A : Option Addr) (n c : Nat) : Value := .slice A n c
/-- A place took another set in. -/
theorem LawS.merge {w0 w w' : World} {B g3 g4 k k1 : Nat} {W : List WrM} {nx : Nat → Nat} {Ls : Nat → List SibV} {v5 : Value} {vs : Nat → Value} {A5 : Option Addr} {c5 : Nat} {L2 L : List SibV} {A : Option Addr} {n cN : Nat}
    (h : LawS w0 B g3 g4 k W nx Ls v5 w) (hk1 : k1 < 3) (h2 : PlaceP W L2) (hM : MergeOf (Ls k1) L2 L) (hs : SibsR w' A n L) (hb : ∀ b, InB A L b → w.heap.size ≤ b ∧ b < w'.heap.size) (hG : Gr w w')
    (hv5 : v5 = .slice A5 W.length c5) (hO : OwnD w B A5 W.length c5 (W.map (·.1))) (hp : ∀ j, j < 3 → PlaceS w B A5 (vs j) (Ls j)) (h3 : g3 < B) (h34 : g4 ≠ g3) {w2 : World} (hK : InK g3 w' w2) (hA : Arr w2 g3 24 ((row3 vs).set k1 (.slice A n cN))) (hw : w0.heap.size ≤ g3) :
    LawS w0 B g3 g4 k W nx (upd Ls k1 L) v5 w2 ∧ ∀ d, rightD d → (covS (upd Ls k1 L k1) d ↔ covS (Ls k1) d ∨ covS L2 d) := by
  obtain ⟨hP, hc⟩ := place_merge h.wr.hist (h.place k1 hk1) h2 hM
  have hu : upd Ls k1 L k1 = L := by unfold upd; rw [if_pos rfl]
  refine ⟨⟨h.wr, fun j hj => ?_, fun x hx => ?_, ⟨upd vs k1 (.slice A n cN), A5, c5, hv5, ?_, fun j hj => ?_, ?_⟩, ?_, ?_, ?_⟩, by rw [hu]; exact hc⟩
  · unfold upd
    split
    · exact hP
    · exact h.place j hj
  · obtain ⟨j, hj, hcov⟩ := h.union x hx
    refine ⟨j, hj, ?_⟩
    unfold upd
    split
    · rename_i e
      subst e
      exact (hc x.1 (h.wr.hist.right x hx)).2 (.inl hcov)
    · exact hcov
  · exact hK.own (Gr.own hG hO) h3
  · unfold upd
    split
    · exact (PlaceS.new hs hb h.size (own_lt hO)).ink hK h3
    · exact ((hp j hj).gr hG).ink hK h3
  · rw [← row3_set vs hk1]
    exact hA
  · exact hK.arr (h.num.gr hG) h34
  · exact hK.gr_after (h.gr.trans hG) hw
  · exact Nat.le_trans h.size (Nat.le_trans hG.size hK.size)
/-- A place wrote. -/
theorem LawS.write {w0 w w1 wp wq w3 w4 w5 : World} {B g3 g4 k k1 c : Nat} {W : List WrM} {nx : Nat → Nat} {Ls : Nat → List SibV} {v5 : Value} {vs : Nat → Value} {A5 A6 : Option Addr} {c5 c6 : Nat} {p : CtxM} {s : SibV} {L : List SibV} {A : Option Addr} {n cN : Nat}
    (h : LawS w0 B g3 g4 k W nx Ls v5 w) (hk : k < 24) (hc : 1 ≤ c ∧ c ≤ 3) (hk1 : k1 < 3) (hp : PastP W p) (hsd : s.d = (c, nx c + 1)) (hsc : s.c = p) (hsb : s.body = []) (hM : MergeOf (Ls k1) [s] L)
    (hO : OwnD w B A5 W.length c5 (W.map (·.1))) (hpl : ∀ j, j < 3 → PlaceS w B A5 (vs j) (Ls j)) (h3 : g3 < B) (h4 : g4 < B) (h34 : g4 ≠ g3) (hw3 : w0.heap.size ≤ g3) (hw4 : w0.heap.size ≤ g4) (hwB : w0.heap.size ≤ B)
    (hK4 : InK g4 w w1) (hA4 : Arr w1 g4 25 ((row4 nx).set c (.int .i64 ((nx c + 1 : Nat) : Int)))) (hG1 : Gr w1 wp) (hs : SibsR wq A n L) (hb : ∀ b, InB A L b → wp.heap.size ≤ b ∧ b < wq.heap.size) (hG2 : Gr wp wq)
    (hK3 : InK g3 wq w3) (hA3 : Arr w3 g3 24 ((row3 vs).set k1 (.slice A n cN))) (hG3 : Gr w3 w4) (hT : Tn (blkT A5 39) B w4 w5) (h6 : A6 = A5 ∨ ∀ ad, A6 = some ad → w4.heap.size ≤ ad.block)
    (hO6 : w5.ownsRow B 39 2 (.slice A6 (W.length + 1) c6) (W.length + 1) ((W.map (·.1)).flatMap encD ++ encD s.d)) :
    LawS w0 B g3 g4 (k + 1) (W ++ [keyW s]) (nxSet nx c) (upd Ls k1 L) (.slice A6 (W.length + 1) c6) w5 := by
  obtain ⟨hr, hf, hW⟩ := h.wr.add hk hc hp
  have ek : keyW s = ((c, nx c + 1), p) := by unfold keyW; rw [hsd, hsc]
  rw [← ek] at hW
  have hone := place_one hW.hist hsb
  obtain ⟨hP, hcv⟩ := place_merge hW.hist ((h.place k1 hk1).wide _) hone hM
  have hl5 : ∀ ad, A5 = some ad → ad.block < w.heap.size := own_lt hO
  have hs1 : w.heap.size ≤ w1.heap.size := hK4.size
  have hs4 : B ≤ w4.heap.size := Nat.le_trans h.size (Nat.le_trans hs1 (Nat.le_trans hG1.size (Nat.le_trans hG2.size (Nat.le_trans hK3.size hG3.size))))
  have hBel : Below B w4 w5 := hT.below hs4
  have hlen : (W ++ [keyW s]).length = W.length + 1 := by rw [List.length_append]; rfl
  refine ⟨hW, fun j hj => ?_, fun x hx => ?_, ⟨upd vs k1 (.slice A n cN), A6, c6, by rw [hlen], ?_, fun j hj => ?_, ?_⟩, ?_, ?_, Nat.le_trans hs4 hT.size⟩
  · unfold upd
    split
    · exact hP
    · exact (h.place j hj).wide _
  · rcases List.mem_append.1 hx with hx | hx
    · obtain ⟨j, hj, hcov⟩ := h.union x hx
      refine ⟨j, hj, ?_⟩
      unfold upd
      split
      · rename_i e
        subst e
        exact (hcv x.1 (h.wr.hist.right x hx)).2 (.inl hcov)
      · exact hcov
    · have : x = keyW s := by simpa using hx
      subst this
      refine ⟨k1, hk1, ?_⟩
      unfold upd
      rw [if_pos rfl]
      have : rightD (keyW s).1 := by rw [ek]; exact hr
      exact (hcv _ this).2 (.inr cov_one)
  · unfold OwnD
    rw [hlen, List.map_append, List.flatMap_append]
    simpa [keyW] using hO6
  · have hpl4 : ∀ j, j < 3 → PlaceS w4 B A5 (upd vs k1 (.slice A n cN) j) (upd Ls k1 L j) := fun j hj => by
      unfold upd
      split
      · exact ((PlaceS.new hs hb (Nat.le_trans h.size (Nat.le_trans hs1 hG1.size)) (fun ad e => by have := hl5 ad e; have := hG1.size; omega)).ink hK3 h3).gr hG3
      · exact (((((hpl j hj).ink hK4 h4).gr hG1).gr hG2).ink hK3 h3).gr hG3
    exact (hpl4 j hj).app hT h6
  · rw [← row3_set vs hk1]
    exact (hA3.gr hG3).below hBel h3
  · have h1 : Arr w1 g4 25 (row4 (nxSet nx c)) := by
      rw [← row4_set nx (by omega : c < 4)]
      exact hA4
    exact ((hK3.arr ((h1.gr hG1).gr hG2) h34).gr hG3).below hBel h4
  · have g1 : Gr w0 w1 := hK4.gr_after h.gr hw4
    have g2 : Gr w0 wq := (g1.trans hG1).trans hG2
    have g3' : Gr w0 w3 := hK3.gr_after g2 hw3
    exact Below.trans (g3'.trans hG3) (hBel.mono hwB)
end Go.Proofs.YteckblffpidigaaGreatDoor
