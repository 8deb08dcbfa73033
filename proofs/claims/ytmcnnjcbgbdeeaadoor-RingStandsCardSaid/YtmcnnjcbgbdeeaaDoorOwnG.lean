/- Slices whose spare room may be written, wherever they lie: append onto them, whatever comes. No condition. -/
import Derived.Deep.Upon
import Derived.Deep.AppendSrc
import Derived.Test.YtmcnnjcbgbdeeaaDoorMem
import Derived.Test.YtmcnnjcbgbdeeaaDoorKitA
namespace Go.Proofs.YtmcnnjcbgbdeeaaDoor
open Go.RowKit
/-- At A n places (of c) that read xs; what is behind them may be written; none of it lies below base. -/
structure OwnG (w : World) (base : Nat) (A : Option Addr) (n c : Nat) (xs : List Value) : Prop where
  le : n ≤ c
  max : c ≤ maxLen
  nil : A = none → c = 0
  rd : Rd w A n xs
  plain : ∀ ad, A = some ad → ad.spot = none ∧ base ≤ ad.block
  room : ∀ ad, A = some ad → ∀ j, n ≤ j → j < c → (w.cell? ⟨ad.block, ad.off + j, none⟩).isSome = true ∧ w.frozen? ⟨ad.block, ad.off + j, none⟩ = false
section
variable {w w' : World} {base : Nat} {A : Option Addr} {n c : Nat} {xs : List Value}
theorem OwnG.keep (h : OwnG w base A n c xs) (hk : ∀ p : Addr, p.block < w.heap.size → (∀ ad, A = some ad → p.block = ad.block) → w'.cell? p = w.cell? p ∧ w'.frozen? p = w.frozen? p) : OwnG w' base A n c xs := by
  refine ⟨h.le, h.max, h.nil, h.rd.keep (fun p hp he => (hk p hp he).1), h.plain, fun ad e j h1 h2 => ?_⟩
  obtain ⟨h3, h4⟩ := h.room ad e j h1 h2
  obtain ⟨v, hv⟩ := Option.isSome_iff_exists.1 h3
  have := hk ⟨ad.block, ad.off + j, none⟩ (lt_of_cell hv) (fun ad' e' => by rw [e] at e'; injection e' with e'; rw [e'])
  rw [this.1, this.2]
  exact ⟨h3, h4⟩
theorem OwnG.gr (h : OwnG w base A n c xs) (hG : Gr w w') : OwnG w' base A n c xs := h.keep fun _ hp _ => ⟨Below.cell hG hp, Below.frozen hG hp⟩
theorem OwnG.blocks (h : OwnG w base A n c xs) (hb : ∀ k, k < w.heap.size → (∀ ad, A = some ad → k = ad.block) → w'.heap[k]? = w.heap[k]?) : OwnG w' base A n c xs :=
  h.keep fun _ hp he => ⟨World.cell?_of_block (hb _ hp he), World.frozen?_of_block (hb _ hp he)⟩
theorem OwnG.base_le (h : OwnG w base A n c xs) {b : Nat} (hb : b ≤ base) : OwnG w b A n c xs := ⟨h.le, h.max, h.nil, h.rd, fun ad e => ⟨(h.plain ad e).1, Nat.le_trans hb (h.plain ad e).2⟩, h.room⟩
theorem OwnG.lt (h : OwnG w base A n c xs) (hc : 0 < c) : ∃ ad, A = some ad ∧ ad.block < w.heap.size := by
  rcases A with _ | ad
  · have := h.nil rfl; omega
  · refine ⟨ad, rfl, ?_⟩
    rcases Nat.eq_zero_or_pos n with h0 | h0
    · obtain ⟨v, hv⟩ := Option.isSome_iff_exists.1 (h.room ad rfl 0 (by omega) hc).1
      exact lt_of_cell (a := ⟨ad.block, ad.off + 0, none⟩) hv
    · obtain ⟨ad', u, e, _, hu⟩ := h.rd.at_ h0
      injection e with e
      subst e
      have := lt_of_cell hu
      rwa [add_block] at this
theorem OwnG.of_own {e : TypeId} {v : Value} (h : w.ownsRow base e 1 v n xs) : ∃ A c, v = .slice A n c ∧ OwnG w base A n c xs := by
  rcases h.2 with ⟨rfl, rfl⟩ | ⟨g, cap, cur, rfl, hb, hg, hc, hm, hs, ht⟩
  · have hx : xs = [] := List.eq_nil_of_length_eq_zero (by simpa using h.1)
    subst hx
    exact ⟨none, 0, rfl, Nat.le_refl _, by unfold maxLen; omega, fun _ => rfl, Rd.nil _ _, fun ad e => by (cases e), fun ad e => by (cases e)⟩
  · refine ⟨_, cap, rfl, hc, hm, fun e => by (cases e), Rd.of_own h, fun ad e => ?_, fun ad e j h1 h2 => ?_⟩
    · injection e with e; subst e; exact ⟨rfl, hb⟩
    · injection e with e; subst e
      simp only [Nat.zero_add]
      refine ⟨?_, frozen_of_row w g _ cur _ hg⟩
      rw [cell_of_row w g _ cur _ _ hg]
      simp
      omega
theorem OwnG.nilAt (w : World) (base : Nat) : OwnG w base none 0 0 [] := ⟨Nat.le_refl _, by unfold maxLen; omega, fun _ => rfl, Rd.nil _ _, fun ad e => by (cases e), fun ad e => by (cases e)⟩
theorem OwnG.slice (h : OwnG w base A n c xs) : Rd w A n xs := h.rd
end
theorem setCells_heap_other {b k : Nat} : ∀ (vs : List Value) (w : World) (o : Nat), k ≠ b → (w.setCells b o vs).heap[k]? = w.heap[k]?
  | [], _, _, _ => rfl
  | v :: r, w, o, h => by
    rw [World.setCells, setCells_heap_other r _ (o + 1) h]
    exact heap_setCell_other w ⟨b, o, none⟩ k v h
/-- All blocks but the slice's own are as they were. -/
def ButA (w w' : World) (A : Option Addr) : Prop := ∀ k, k < w.heap.size → (∀ ad, A = some ad → k ≠ ad.block) → w'.heap[k]? = w.heap[k]?
section
variable {P : Program} {w : World} {base : Nat} {A : Option Addr} {n c m : Nat} {xs news : List Value}
theorem run_appG (t tx ty e : TypeId) (i : TypeInfo) (z : Value) (ht : P.underlying t = some (.slice e)) (hi : P.info? e = some i) (hz : i.zero = some z) (hs1 : i.size = 1) (hb1 : i.bytes ≤ 64) (hzs : z.cells.size = 1)
    (h : OwnG w base A n c xs) (x : Value) (hs : Src P 1 tx x m news w) (hnm : n + m ≤ 1000000000) (hbase : base ≤ w.heap.size) :
    ∃ A' c' w', (Builtin.append_ #[t, tx] ty #[.slice A n c, x]).run P w = .ok (.slice A' (n + m) c') w' ∧ OwnG w' base A' (n + m) c' (xs ++ news) ∧ Below base w w' ∧ ButA w w' A ∧ (A' = A ∨ ∃ ad, A' = some ad ∧ w.heap.size ≤ ad.block) := by
  have hl := hs.newsLen
  rw [Nat.mul_one] at hl
  have hs' : Src P i.size tx x m news w := by rw [hs1]; exact hs
  rcases Nat.eq_zero_or_pos m with h0 | h0
  · subst h0
    have hn : news = [] := List.eq_nil_of_length_eq_zero hl
    subst hn
    exact ⟨A, c, w, run_append_nothing w t tx ty e i ht hi A n c h.le x hs', by simpa using h, Below.refl _ _, fun _ _ _ => rfl, .inl rfl⟩
  · by_cases hroom : n + m ≤ c
    · rcases A with _ | ⟨b, off, sp⟩
      · have := h.nil rfl; omega
      · obtain ⟨hsp, hbb⟩ := h.plain _ rfl
        simp only at hsp hbb
        subst hsp
        have hr := fun j h1 h2 => h.room _ rfl j h1 h2
        simp only at hr
        have hrun := run_append_room_src (P := P) w t tx ty e i ht hi b off n c x m news hs' hroom
          (fun j hj => by rw [hs1, Nat.mul_one, Nat.add_assoc]; exact (hr (n + j) (by omega) (by omega)).1) (fun j hj => by rw [hs1, Nat.mul_one, Nat.add_assoc]; exact (hr (n + j) (by omega) (by omega)).2)
        rw [hs1, Nat.mul_one] at hrun
        refine ⟨_, c, _, hrun, ⟨hroom, h.max, fun e => by (cases e), ⟨by rw [List.length_append, h.rd.1, hl], fun j u hu => ⟨_, rfl, ?_⟩⟩, h.plain, fun ad e j h1 h2 => ?_⟩, below_setCells hbb _ _ _, fun k _ hk => ?_, .inl rfl⟩
        · rw [add_row]
          rcases Nat.lt_or_ge j n with hj | hj
          · rw [List.getElem?_append_left (by rw [h.rd.1]; exact hj)] at hu
            obtain ⟨ad, e, hc⟩ := h.rd.2 j u hu
            injection e with e
            subst e
            rw [add_row] at hc
            rw [World.cell?_setCells_out b news (off + n) w _ (fun _ _ => .inl (by simp only; omega))]
            exact hc
          · rw [List.getElem?_append_right (by rw [h.rd.1]; exact hj), h.rd.1] at hu
            have hjl : j - n < news.length := by
              rcases Nat.lt_or_ge (j - n) news.length with h' | h'
              · exact h'
              · rw [List.getElem?_eq_none h'] at hu; cases hu
            have hin := World.cell?_setCells_in b news (off + n) w (fun i hi => by rw [Nat.add_assoc]; exact (hr (n + i) (by omega) (by omega)).1) (j - n) hjl
            rw [show off + n + (j - n) = off + j by omega] at hin
            rw [hin]
            rw [List.getElem?_eq_getElem hjl] at hu
            exact hu
        · injection e with e
          subst e
          obtain ⟨h3, h4⟩ := hr j (by omega) h2
          exact ⟨World.isSome_setCells b news (off + n) w _ h3, by rw [World.frozen?_setCells]; exact h4⟩
        · have hne : k ≠ b := hk _ rfl
          exact setCells_heap_other news w (off + n) hne
    · have hold : (Builtin.firstCells i.size n (.slice A n c)).run P w.drew = .ok xs.toArray w.drew := by
        rcases A with _ | ad
        · have := h.nil rfl
          have hn0 : n = 0 := by have := h.le; omega
          have hx : xs = [] := List.eq_nil_of_length_eq_zero (by rw [h.rd.1]; exact hn0)
          rw [hx]
          exact run_firstCells_none w.drew i.size n n c
        · refine run_firstCells_some w.drew i.size n ad n c xs (by rw [hs1, Nat.mul_one]; exact h.rd.1) fun j v hv => ?_
          obtain ⟨ad', e, hc⟩ := h.rd.2 j v hv
          injection e with e
          subst e
          exact hc
      have hb : (n + m) * i.bytes ≤ 140737488355328 := Nat.le_trans (Nat.mul_le_mul hnm hb1) (by omega)
      have hrun := run_append_grow_src (P := P) w t tx ty e i z ht hi hz A n c xs hold x m news hs' (by omega) (by omega) (growslice_fits (by omega) hb)
      have hge := grownCap_ge w (n + m) c e
      have hmx := grownCap_le_maxLen w (n + m) c e (by unfold maxLen; omega)
      generalize grownCap w (n + m) c e = G at hrun hge hmx
      have hxl : (xs ++ news).length = n + m := by rw [List.length_append, h.rd.1, hl]
      obtain ⟨C, hC⟩ : ∃ C : Array Value, C = (xs ++ news).toArray ++ Builtin.zeroCells z.cells (G - (n + m)) := ⟨_, rfl⟩
      rw [← hC] at hrun
      have hCs : C.size = G := by rw [hC, Array.size_append, size_zeroCells, hzs]; simp only [List.size_toArray, hxl]; omega
      have hg : (w.drew.alloc (.cells C e)).heap[w.heap.size]? = some (.cells C e (0, 0)) := heap_alloc_new w.drew _
      refine ⟨_, G, _, hrun, ⟨hge, hmx, fun e => by (cases e), ?_, fun ad e => ?_, fun ad e j h1 h2 => ?_⟩, (Below.refl _ _).drew.alloc hbase _, fun k hk _ => heap_alloc_old w.drew _ hk, .inr ⟨_, rfl, Nat.le_refl _⟩⟩
      · have := Rd.of_row hg 0 (n + m) (by omega)
        have e : (C.toList.drop 0).take (n + m) = xs ++ news := by
          rw [List.drop_zero, hC, Array.toList_append, List.take_append_of_le_length (by simp only [hxl]; omega), List.take_of_length_le (by simp only [hxl]; omega)]
        rwa [e] at this
      · injection e with e; subst e; exact ⟨rfl, hbase⟩
      · injection e with e; subst e
        simp only [Nat.zero_add]
        refine ⟨?_, frozen_of_row _ _ _ C _ hg⟩
        rw [cell_of_row _ _ _ C _ _ hg]
        simp
        omega
theorem Src.ofRd {tx e' : TypeId} (hk : P.underlying tx = some (.slice e')) {A' : Option Addr} {c' : Nat} (hr : Rd w A' m news) (h1 : ∀ u ∈ news, u.oneCell' = true) : Src P 1 tx (.slice A' m c') m news w := by
  rcases Nat.eq_zero_or_pos m with h0 | h0
  · subst h0
    have hn : news = [] := List.eq_nil_of_length_eq_zero hr.1
    subst hn
    rcases A' with _ | ad
    · exact Src.ofNil w hk c'
    · exact Src.ofSlice w hk ad 0 c' [] rfl (fun j u h => by simp at h) h1
  · obtain ⟨ad, _, rfl, _, _⟩ := hr.at_ h0
    exact Src.ofSlice w hk ad m c' news (by rw [Nat.mul_one]; exact hr.1) (fun j u hu => by obtain ⟨ad', e, hc⟩ := hr.2 j u hu; injection e with e; subst e; exact hc) h1
theorem Src.ofStr {tx : TypeId} (hk : P.underlying tx = some .string) (l : List UInt8) (hl : l.length = m) : Src P 1 tx (.string ⟨l.toArray⟩) m (u8s l) w := by
  subst hl
  have h := Src.ofString (P := P) w hk ⟨l.toArray⟩
  have e1 : byteCells ⟨l.toArray⟩ = u8s l := by simp [byteCells, u8s]
  have e2 : (⟨l.toArray⟩ : ByteArray).size = l.length := rfl
  rwa [e1, e2] at h
/-- What an append leaves. -/
structure AppG (base : Nat) (w w' : World) (A A' : Option Addr) (n c' : Nat) (xs : List Value) : Prop where
  own : OwnG w' base A' n c' xs
  below : Below base w w'
  but : ButA w w' A
  lies : A' = A ∨ ∃ ad, A' = some ad ∧ w.heap.size ≤ ad.block
theorem AppG.other {w' : World} {A' : Option Addr} {c' : Nat} (h : AppG base w w' A A' n c' xs) {g : Nat} {t : TypeId} {cs : List Value} (ha : Arr w g t cs) (hne : ∀ ad, A = some ad → g ≠ ad.block) : Arr w' g t cs := by
  unfold Arr
  rw [h.but g ha.lt hne]
  exact ha
theorem wp_appG {o : Oper} {a : Act} {K : Act → World → Prop} {Q : Exit → Act → World → Prop} (s x : Operand) (t tx e : TypeId) (ho : o.op = .call { callee := .builtin .append, args := #[s, x], argTypes := #[t, tx] })
    (i : TypeInfo) (z : Value) (ht : P.underlying t = some (.slice e)) (hi : P.info? e = some i) (hz : i.zero = some z) (hs1 : i.size = 1) (hb1 : i.bytes ≤ 64) (hzs : z.cells.size = 1)
    (hs : a.eval s = .slice A n c) (h : OwnG w base A n c xs) (v : Value) (hx : a.eval x = v) (hv : Src P 1 tx v m news w) (hnm : n + m ≤ 1000000000) (hbase : base ≤ w.heap.size)
    (hK : ∀ A' c' w', AppG base w w' A A' (n + m) c' (xs ++ news) → K (a.put o.dst (.slice A' (n + m) c')) w') : o.wp P a w K Q := by
  obtain ⟨A', c', w', hrun, h1, h2, h3, h4⟩ := run_appG (P := P) t tx o.type e i z ht hi hz hs1 hb1 hzs h v hv hnm hbase
  unfold Oper.wp execOp
  simp only [ho, resolve, invoke, builtin, Sem.run_bind, Sem.run_pure, Result.andThen_ok, List.map_toArray, List.map_cons, List.map_nil, hs, hx, hrun]
  exact hK _ _ _ ⟨h1, h2, h3, h4⟩
theorem wpList_appG {ops : Array Oper} {rest : List Oper} {o : Oper} {a : Act} {Q : Exit → Act → World → Prop} (hgd : o.guard = none) (s x : Operand) (t tx e : TypeId) (ho : o.op = .call { callee := .builtin .append, args := #[s, x], argTypes := #[t, tx] })
    (i : TypeInfo) (z : Value) (ht : P.underlying t = some (.slice e)) (hi : P.info? e = some i) (hz : i.zero = some z) (hs1 : i.size = 1) (hb1 : i.bytes ≤ 64) (hzs : z.cells.size = 1)
    (hs : a.eval s = .slice A n c) (h : OwnG w base A n c xs) (v : Value) (hx : a.eval x = v) (hv : Src P 1 tx v m news w) (hnm : n + m ≤ 1000000000) (hbase : base ≤ w.heap.size)
    (hK : ∀ A' c' w', AppG base w w' A A' (n + m) c' (xs ++ news) → wpList P ops Q rest (a.put o.dst (.slice A' (n + m) c')) w') : wpList P ops Q (o :: rest) a w :=
  wpList_plain hgd fun _ hKK => wp_appG s x t tx e ho i z ht hi hz hs1 hb1 hzs hs h v hx hv hnm hbase fun A' c' w' hA => hKK _ _ (hK A' c' w' hA)
/-- The same, of one value in a block of its own. -/
theorem wpList_appG1 {ops : Array Oper} {rest : List Oper} {o : Oper} {a : Act} {Q : Exit → Act → World → Prop} (hgd : o.guard = none) (s x : Operand) (t e : TypeId) (ho : o.op = .call { callee := .builtin .append, args := #[s, x], argTypes := #[t, t] })
    (i : TypeInfo) (z : Value) (ht : P.underlying t = some (.slice e)) (hi : P.info? e = some i) (hz : i.zero = some z) (hs1 : i.size = 1) (hb1 : i.bytes ≤ 64) (hzs : z.cells.size = 1)
    (hs : a.eval s = .slice A n c) (h : OwnG w base A n c xs) (y u : Value) (hx : a.eval x = .slice (some ⟨w.heap.size, 0, none⟩) 1 1) (hy : y = u) (h1 : u.oneCell' = true) (hnm : n + 1 ≤ 1000000000) (hbase : base ≤ w.heap.size)
    (hK : ∀ A' c' w', AppG base w w' A A' (n + 1) c' (xs ++ [u]) → wpList P ops Q rest (a.put o.dst (.slice A' (n + 1) c')) w') : wpList P ops Q (o :: rest) a (w.alloc (.cells #[y] e)) := by
  subst hy
  refine wpList_appG (w := w.alloc (.cells #[y] e)) hgd s x t t e ho i z ht hi hz hs1 hb1 hzs hs (h.gr (Gr.alloc _ _)) _ hx (m := 1) (news := [y])
    (Src.ofRd ht ⟨rfl, fun j u hj => ⟨_, rfl, cell_one_new w y e j u hj⟩⟩ (by simpa using h1)) hnm (by simp; omega) fun A' c' w' hA => hK A' c' w' ⟨hA.own, ((Below.refl base w).alloc hbase _).trans hA.below, fun k hk hne => ?_, ?_⟩
  · rw [hA.but k (by simp; omega) hne]
    exact heap_alloc_old w _ hk
  · rcases hA.lies with e1 | ⟨ad, e1, hg⟩
    · exact .inl e1
    · exact .inr ⟨ad, e1, by simp at hg; omega⟩
end
/-- '[]byte(s)': its room may be written. -/
structure ConvO (P : Program) (src dst : TypeId) (l : List UInt8) (n : Nat) (cap : World → Nat) (W : World → World) (w : World) : Prop where
  run : (convert src dst (.string ⟨l.toArray⟩)).run P w = .ok (.slice (some ⟨w.heap.size, 0, none⟩) n (cap w)) (W w)
  own : OwnG (W w) w.heap.size (some ⟨w.heap.size, 0, none⟩) n (cap w) (u8s l)
  below : Below w.heap.size w (W w)
theorem conv_own {P : Program} (src dst e : TypeId) (l : List UInt8) (n : Nat) (hn : l.length = n) (hl : n ≤ 1000000000) (hs : P.underlying src = some .string) (hd : P.underlying dst = some (.slice e)) (he : P.underlying e = some (.int .u8)) :
    ∃ (cap : World → Nat) (W : World → World), ∀ w, ConvO P src dst l n cap W w := by
  subst hn
  refine ⟨fun w => grownCap w l.length 0 e, fun w => _, fun w => ⟨run_bytes_of_string w src dst e ⟨l.toArray⟩ hs hd he, ?_, ((Below.refl _ _).drew).alloc (Nat.le_refl _) _⟩⟩
  have e0 : (⟨l.toArray⟩ : ByteArray).size = l.length := rfl
  rw [e0]
  have hge := grownCap_ge w l.length 0 e
  have hmx := grownCap_le_maxLen w l.length 0 e (by unfold maxLen; omega)
  generalize grownCap w l.length 0 e = G at hge hmx
  have hsz : (bytesRow ⟨l.toArray⟩ G).size = G := by
    simp [bytesRow, ByteArray.size]
    omega
  have hg : (w.drew.alloc (.cells (bytesRow ⟨l.toArray⟩ G) e ((bytesRow ⟨l.toArray⟩ G).size, (bytesRow ⟨l.toArray⟩ G).size + 1))).heap[w.heap.size]? = some (.cells (bytesRow ⟨l.toArray⟩ G) e ((bytesRow ⟨l.toArray⟩ G).size, (bytesRow ⟨l.toArray⟩ G).size + 1)) := by
    show (w.heap.push _)[w.heap.size]? = _
    simp
  refine ⟨hge, hmx, fun e => by (cases e), ?_, fun ad e => ?_, fun ad e j h1 h2 => ?_⟩
  · have h := Rd.of_row hg 0 l.length (by rw [hsz]; omega)
    have e1 : ((bytesRow ⟨l.toArray⟩ G).toList.drop 0).take l.length = u8s l := by simp [bytesRow, u8s]
    rwa [e1] at h
  · injection e with e; subst e; exact ⟨rfl, Nat.le_refl _⟩
  · injection e with e; subst e
    simp only [Nat.zero_add]
    refine ⟨?_, ?_⟩
    · rw [cell_of_row _ _ _ _ _ _ hg]
      simp
      omega
    · unfold World.frozen?
      simp only [hg]
      simp
      omega
end Go.Proofs.YtmcnnjcbgbdeeaaDoor
