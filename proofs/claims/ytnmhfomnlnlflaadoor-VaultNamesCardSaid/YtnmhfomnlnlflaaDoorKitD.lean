/- Small laws of this seat, laid as one text. No condition. -/
import Derived.Deep.Upon
import Derived.Deep.AppendSrc
import Derived.Test.YtnmhfomnlnlflaaDoorKitB
import Derived.Test.YtnmhfomnlnlflaaDoorKitA
import Derived.Test.YtnmhfomnlnlflaaDoorKitC
import Derived.Lib.MakeNoZero
import Derived.Lib.AppendZerosOnto
import Derived.Deep.Cut
import Derived.Lib.AppendStr
import Derived.Lib.SlBytesConst
/- Slices whose spare room may be written, wherever they lie: append onto them, whatever comes. No condition. -/
namespace Go.Proofs.YtnmhfomnlnlflaaDoor
open Go.RowKit
/-- At A n places (of c) that read xs; what is behind them may be written; none of it lies below base. -/
structure OwnG (w : World) (base : Nat) (A : Option Addr) (n c : Nat) (xs : List Value) : Prop where
  le : n ≤ c
  max : c ≤ maxLen
  nil : A = none → c = 0
  rd : Rd w A n xs
  plain : ∀ ad, A = some ad → ad.spot = none ∧ base ≤ ad.block
  room : ∀ ad, A = some ad → ∀ j, n ≤ j → j < c → (w.cell? ⟨ad.block, ad.off + j, none⟩).isSome = true ∧ w.frozen? ⟨ad.block, ad.off + j, none⟩ = false
section
variable {w w' : World} {base : Nat} {A : Option Addr} {n c : Nat} {xs : List Value}
theorem OwnG.keep (h : OwnG w base A n c xs) (hk : ∀ p : Addr, p.block < w.heap.size → (∀ ad, A = some ad → p.block = ad.block) → w'.cell? p = w.cell? p ∧ w'.frozen? p = w.frozen? p) : OwnG w' base A n c xs := by
  refine ⟨h.le, h.max, h.nil, h.rd.keep (fun p hp he => (hk p hp he).1), h.plain, fun ad e j h1 h2 => ?_⟩
  obtain ⟨h3, h4⟩ := h.room ad e j h1 h2
  obtain ⟨v, hv⟩ := Option.isSome_iff_exists.1 h3
  have := hk ⟨ad.block, ad.off + j, none⟩ (lt_of_cell hv) (fun ad' e' => by rw [e] at e'; injection e' with e'; rw [e'])
  rw [this.1, this.2]
  exact ⟨h3, h4⟩
theorem OwnG.gr (h : OwnG w base A n c xs) (hG : Gr w w') : OwnG w' base A n c xs := h.keep fun _ hp _ => ⟨Below.cell hG hp, Below.frozen hG hp⟩
theorem OwnG.blocks (h : OwnG w base A n c xs) (hb : ∀ k, k < w.heap.size → (∀ ad, A = some ad → k = ad.block) → w'.heap[k]? = w.heap[k]?) : OwnG w' base A n c xs :=
  h.keep fun _ hp he => ⟨World.cell?_of_block (hb _ hp he), World.frozen?_of_block (hb _ hp he)⟩
theorem OwnG.base_le (h : OwnG w base A n c xs) {b : Nat} (hb : b ≤ base) : OwnG w b A n c xs := ⟨h.le, h.max, h.nil, h.rd, fun ad e => ⟨(h.plain ad e).1, Nat.le_trans hb (h.plain ad e).2⟩, h.room⟩
theorem OwnG.lt (h : OwnG w base A n c xs) (hc : 0 < c) : ∃ ad, A = some ad ∧ ad.block < w.heap.size := by
  rcases A with _ | ad
  · have := h.nil rfl; omega
  · refine ⟨ad, rfl, ?_⟩
    rcases Nat.eq_zero_or_pos n with h0 | h0
    · obtain ⟨v, hv⟩ := Option.isSome_iff_exists.1 (h.room ad rfl 0 (by omega) hc).1
      exact lt_of_cell (a := ⟨ad.block, ad.off + 0, none⟩) hv
    · obtain ⟨ad', u, e, _, hu⟩ := h.rd.at_ h0
      injection e with e
      subst e
      have := lt_of_cell hu
      rwa [add_block] at this
theorem OwnG.of_own {e : TypeId} {v : Value} (h : w.ownsRow base e 1 v n xs) : ∃ A c, v = .slice A n c ∧ OwnG w base A n c xs := by
  rcases h.2 with ⟨rfl, rfl⟩ | ⟨g, cap, cur, rfl, hb, hg, hc, hm, hs, ht⟩
  · have hx : xs = [] := List.eq_nil_of_length_eq_zero (by simpa using h.1)
    subst hx
    exact ⟨none, 0, rfl, Nat.le_refl _, by unfold maxLen; omega, fun _ => rfl, Rd.nil _ _, fun ad e => by (cases e), fun ad e => by (cases e)⟩
  · refine ⟨_, cap, rfl, hc, hm, fun e => by (cases e), Rd.of_own h, fun ad e => ?_, fun ad e j h1 h2 => ?_⟩
    · injection e with e; subst e; exact ⟨rfl, hb⟩
    · injection e with e; subst e
      simp only [Nat.zero_add]
      refine ⟨?_, frozen_of_row w g _ cur _ hg⟩
      rw [cell_of_row w g _ cur _ _ hg]
      simp
      omega
theorem OwnG.nilAt (w : World) (base : Nat) : OwnG w base none 0 0 [] := ⟨Nat.le_refl _, by unfold maxLen; omega, fun _ => rfl, Rd.nil _ _, fun ad e => by (cases e), fun ad e => by (cases e)⟩
theorem OwnG.slice (h : OwnG w base A n c xs) : Rd w A n xs := h.rd
end
theorem setCells_heap_other {b k : Nat} : ∀ (vs : List Value) (w : World) (o : Nat), k ≠ b → (w.setCells b o vs).heap[k]? = w.heap[k]?
  | [], _, _, _ => rfl
  | v :: r, w, o, h => by
    rw [World.setCells, setCells_heap_other r _ (o + 1) h]
    exact heap_setCell_other w ⟨b, o, none⟩ k v h
/-- All blocks but the slice's own are as they were. -/
def ButA (w w' : World) (A : Option Addr) : Prop := ∀ k, k < w.heap.size → (∀ ad, A = some ad → k ≠ ad.block) → w'.heap[k]? = w.heap[k]?
section
variable {P : Program} {w : World} {base : Nat} {A : Option Addr} {n c m : Nat} {xs news : List Value}
theorem run_appG (t tx ty e : TypeId) (i : TypeInfo) (z : Value) (ht : P.underlying t = some (.slice e)) (hi : P.info? e = some i) (hz : i.zero = some z) (hs1 : i.size = 1) (hb1 : i.bytes ≤ 64) (hzs : z.cells.size = 1)
    (h : OwnG w base A n c xs) (x : Value) (hs : Src P 1 tx x m news w) (hnm : n + m ≤ 1000000000) (hbase : base ≤ w.heap.size) :
    ∃ A' c' w', (Builtin.append_ #[t, tx] ty #[.slice A n c, x]).run P w = .ok (.slice A' (n + m) c') w' ∧ OwnG w' base A' (n + m) c' (xs ++ news) ∧ Below base w w' ∧ ButA w w' A ∧ (A' = A ∨ ∃ ad, A' = some ad ∧ w.heap.size ≤ ad.block) := by
  have hl := hs.newsLen
  rw [Nat.mul_one] at hl
  have hs' : Src P i.size tx x m news w := by rw [hs1]; exact hs
  rcases Nat.eq_zero_or_pos m with h0 | h0
  · subst h0
    have hn : news = [] := List.eq_nil_of_length_eq_zero hl
    subst hn
    exact ⟨A, c, w, run_append_nothing w t tx ty e i ht hi A n c h.le x hs', by simpa using h, Below.refl _ _, fun _ _ _ => rfl, .inl rfl⟩
  · by_cases hroom : n + m ≤ c
    · rcases A with _ | ⟨b, off, sp⟩
      · have := h.nil rfl; omega
      · obtain ⟨hsp, hbb⟩ := h.plain _ rfl
        simp only at hsp hbb
        subst hsp
        have hr := fun j h1 h2 => h.room _ rfl j h1 h2
        simp only at hr
        have hrun := run_append_room_src (P := P) w t tx ty e i ht hi b off n c x m news hs' hroom
          (fun j hj => by rw [hs1, Nat.mul_one, Nat.add_assoc]; exact (hr (n + j) (by omega) (by omega)).1) (fun j hj => by rw [hs1, Nat.mul_one, Nat.add_assoc]; exact (hr (n + j) (by omega) (by omega)).2)
        rw [hs1, Nat.mul_one] at hrun
        refine ⟨_, c, _, hrun, ⟨hroom, h.max, fun e => by (cases e), ⟨by rw [List.length_append, h.rd.1, hl], fun j u hu => ⟨_, rfl, ?_⟩⟩, h.plain, fun ad e j h1 h2 => ?_⟩, below_setCells hbb _ _ _, fun k _ hk => ?_, .inl rfl⟩
        · rw [add_row]
          rcases Nat.lt_or_ge j n with hj | hj
          · rw [List.getElem?_append_left (by rw [h.rd.1]; exact hj)] at hu
            obtain ⟨ad, e, hc⟩ := h.rd.2 j u hu
            injection e with e
            subst e
            rw [add_row] at hc
            rw [World.cell?_setCells_out b news (off + n) w _ (fun _ _ => .inl (by simp only; omega))]
            exact hc
          · rw [List.getElem?_append_right (by rw [h.rd.1]; exact hj), h.rd.1] at hu
            have hjl : j - n < news.length := by
              rcases Nat.lt_or_ge (j - n) news.length with h' | h'
              · exact h'
              · rw [List.getElem?_eq_none h'] at hu; cases hu
            have hin := World.cell?_setCells_in b news (off + n) w (fun i hi => by rw [Nat.add_assoc]; exact (hr (n + i) (by omega) (by omega)).1) (j - n) hjl
            rw [show off + n + (j - n) = off + j by omega] at hin
            rw [hin]
            rw [List.getElem?_eq_getElem hjl] at hu
            exact hu
        · injection e with e
          subst e
          obtain ⟨h3, h4⟩ := hr j (by omega) h2
          exact ⟨World.isSome_setCells b news (off + n) w _ h3, by rw [World.frozen?_setCells]; exact h4⟩
        · have hne : k ≠ b := hk _ rfl
          exact setCells_heap_other news w (off + n) hne
    · have hold : (Builtin.firstCells i.size n (.slice A n c)).run P w.drew = .ok xs.toArray w.drew := by
        rcases A with _ | ad
        · have := h.nil rfl
          have hn0 : n = 0 := by have := h.le; omega
          have hx : xs = [] := List.eq_nil_of_length_eq_zero (by rw [h.rd.1]; exact hn0)
          rw [hx]
          exact run_firstCells_none w.drew i.size n n c
        · refine run_firstCells_some w.drew i.size n ad n c xs (by rw [hs1, Nat.mul_one]; exact h.rd.1) fun j v hv => ?_
          obtain ⟨ad', e, hc⟩ := h.rd.2 j v hv
          injection e with e
          subst e
          exact hc
      have hb : (n + m) * i.bytes ≤ 140737488355328 := Nat.le_trans (Nat.mul_le_mul hnm hb1) (by omega)
      have hrun := run_append_grow_src (P := P) w t tx ty e i z ht hi hz A n c xs hold x m news hs' (by omega) (by omega) (growslice_fits (by omega) hb)
      have hge := grownCap_ge w (n + m) c e
      have hmx := grownCap_le_maxLen w (n + m) c e (by unfold maxLen; omega)
      generalize grownCap w (n + m) c e = G at hrun hge hmx
      have hxl : (xs ++ news).length = n + m := by rw [List.length_append, h.rd.1, hl]
      obtain ⟨C, hC⟩ : ∃ C : Array Value, C = (xs ++ news).toArray ++ Builtin.zeroCells z.cells (G - (n + m)) := ⟨_, rfl⟩
      rw [← hC] at hrun
      have hCs : C.size = G := by rw [hC, Array.size_append, size_zeroCells, hzs]; simp only [List.size_toArray, hxl]; omega
      have hg : (w.drew.alloc (.cells C e)).heap[w.heap.size]? = some (.cells C e (0, 0)) := heap_alloc_new w.drew _
      refine ⟨_, G, _, hrun, ⟨hge, hmx, fun e => by (cases e), ?_, fun ad e => ?_, fun ad e j h1 h2 => ?_⟩, (Below.refl _ _).drew.alloc hbase _, fun k hk _ => heap_alloc_old w.drew _ hk, .inr ⟨_, rfl, Nat.le_refl _⟩⟩
      · have := Rd.of_row hg 0 (n + m) (by omega)
        have e : (C.toList.drop 0).take (n + m) = xs ++ news := by
          rw [List.drop_zero, hC, Array.toList_append, List.take_append_of_le_length (by simp only [hxl]; omega), List.take_of_length_le (by simp only [hxl]; omega)]
        rwa [e] at this
      · injection e with e; subst e; exact ⟨rfl, hbase⟩
      · injection e with e; subst e
        simp only [Nat.zero_add]
        refine ⟨?_, frozen_of_row _ _ _ C _ hg⟩
        rw [cell_of_row _ _ _ C _ _ hg]
        simp
        omega
theorem Src.ofRd {tx e' : TypeId} (hk : P.underlying tx = some (.slice e')) {A' : Option Addr} {c' : Nat} (hr : Rd w A' m news) (h1 : ∀ u ∈ news, u.oneCell' = true) : Src P 1 tx (.slice A' m c') m news w := by
  rcases Nat.eq_zero_or_pos m with h0 | h0
  · subst h0
    have hn : news = [] := List.eq_nil_of_length_eq_zero hr.1
    subst hn
    rcases A' with _ | ad
    · exact Src.ofNil w hk c'
    · exact Src.ofSlice w hk ad 0 c' [] rfl (fun j u h => by simp at h) h1
  · obtain ⟨ad, _, rfl, _, _⟩ := hr.at_ h0
    exact Src.ofSlice w hk ad m c' news (by rw [Nat.mul_one]; exact hr.1) (fun j u hu => by obtain ⟨ad', e, hc⟩ := hr.2 j u hu; injection e with e; subst e; exact hc) h1
theorem Src.ofStr {tx : TypeId} (hk : P.underlying tx = some .string) (l : List UInt8) (hl : l.length = m) : Src P 1 tx (.string ⟨l.toArray⟩) m (u8s l) w := by
  subst hl
  have h := Src.ofString (P := P) w hk ⟨l.toArray⟩
  have e1 : byteCells ⟨l.toArray⟩ = u8s l := by simp [byteCells, u8s]
  have e2 : (⟨l.toArray⟩ : ByteArray).size = l.length := rfl
  rwa [e1, e2] at h
/-- What an append leaves. -/
structure AppG (base : Nat) (w w' : World) (A A' : Option Addr) (n c' : Nat) (xs : List Value) : Prop where
  own : OwnG w' base A' n c' xs
  below : Below base w w'
  but : ButA w w' A
  lies : A' = A ∨ ∃ ad, A' = some ad ∧ w.heap.size ≤ ad.block
theorem AppG.other {w' : World} {A' : Option Addr} {c' : Nat} (h : AppG base w w' A A' n c' xs) {g : Nat} {t : TypeId} {cs : List Value} (ha : Arr w g t cs) (hne : ∀ ad, A = some ad → g ≠ ad.block) : Arr w' g t cs := by
  unfold Arr
  rw [h.but g ha.lt hne]
  exact ha
theorem wp_appG {o : Oper} {a : Act} {K : Act → World → Prop} {Q : Exit → Act → World → Prop} (s x : Operand) (t tx e : TypeId) (ho : o.op = .call { callee := .builtin .append, args := #[s, x], argTypes := #[t, tx] })
    (i : TypeInfo) (z : Value) (ht : P.underlying t = some (.slice e)) (hi : P.info? e = some i) (hz : i.zero = some z) (hs1 : i.size = 1) (hb1 : i.bytes ≤ 64) (hzs : z.cells.size = 1)
    (hs : a.eval s = .slice A n c) (h : OwnG w base A n c xs) (v : Value) (hx : a.eval x = v) (hv : Src P 1 tx v m news w) (hnm : n + m ≤ 1000000000) (hbase : base ≤ w.heap.size)
    (hK : ∀ A' c' w', AppG base w w' A A' (n + m) c' (xs ++ news) → K (a.put o.dst (.slice A' (n + m) c')) w') : o.wp P a w K Q := by
  obtain ⟨A', c', w', hrun, h1, h2, h3, h4⟩ := run_appG (P := P) t tx o.type e i z ht hi hz hs1 hb1 hzs h v hv hnm hbase
  unfold Oper.wp execOp
  simp only [ho, resolve, invoke, builtin, Sem.run_bind, Sem.run_pure, Result.andThen_ok, List.map_toArray, List.map_cons, List.map_nil, hs, hx, hrun]
  exact hK _ _ _ ⟨h1, h2, h3, h4⟩
theorem wpList_appG {ops : Array Oper} {rest : List Oper} {o : Oper} {a : Act} {Q : Exit → Act → World → Prop} (hgd : o.guard = none) (s x : Operand) (t tx e : TypeId) (ho : o.op = .call { callee := .builtin .append, args := #[s, x], argTypes := #[t, tx] })
    (i : TypeInfo) (z : Value) (ht : P.underlying t = some (.slice e)) (hi : P.info? e = some i) (hz : i.zero = some z) (hs1 : i.size = 1) (hb1 : i.bytes ≤ 64) (hzs : z.cells.size = 1)
    (hs : a.eval s = .slice A n c) (h : OwnG w base A n c xs) (v : Value) (hx : a.eval x = v) (hv : Src P 1 tx v m news w) (hnm : n + m ≤ 1000000000) (hbase : base ≤ w.heap.size)
    (hK : ∀ A' c' w', AppG base w w' A A' (n + m) c' (xs ++ news) → wpList P ops Q rest (a.put o.dst (.slice A' (n + m) c')) w') : wpList P ops Q (o :: rest) a w :=
  wpList_plain hgd fun _ hKK => wp_appG s x t tx e ho i z ht hi hz hs1 hb1 hzs hs h v hx hv hnm hbase fun A' c' w' hA => hKK _ _ (hK A' c' w' hA)
/-- The same, of one value in a block of its own. -/
theorem wpList_appG1 {ops : Array Oper} {rest : List Oper} {o : Oper} {a : Act} {Q : Exit → Act → World → Prop} (hgd : o.guard = none) (s x : Operand) (t e : TypeId) (ho : o.op = .call { callee := .builtin .append, args := #[s, x], argTypes := #[t, t] })
    (i : TypeInfo) (z : Value) (ht : P.underlying t = some (.slice e)) (hi : P.info? e = some i) (hz : i.zero = some z) (hs1 : i.size = 1) (hb1 : i.bytes ≤ 64) (hzs : z.cells.size = 1)
    (hs : a.eval s = .slice A n c) (h : OwnG w base A n c xs) (y u : Value) (hx : a.eval x = .slice (some ⟨w.heap.size, 0, none⟩) 1 1) (hy : y = u) (h1 : u.oneCell' = true) (hnm : n + 1 ≤ 1000000000) (hbase : base ≤ w.heap.size)
    (hK : ∀ A' c' w', AppG base w w' A A' (n + 1) c' (xs ++ [u]) → wpList P ops Q rest (a.put o.dst (.slice A' (n + 1) c')) w') : wpList P ops Q (o :: rest) a (w.alloc (.cells #[y] e)) := by
  subst hy
  refine wpList_appG (w := w.alloc (.cells #[y] e)) hgd s x t t e ho i z ht hi hz hs1 hb1 hzs hs (h.gr (Gr.alloc _ _)) _ hx (m := 1) (news := [y])
    (Src.ofRd ht ⟨rfl, fun j u hj => ⟨_, rfl, cell_one_new w y e j u hj⟩⟩ (by simpa using h1)) hnm (by simp; omega) fun A' c' w' hA => hK A' c' w' ⟨hA.own, ((Below.refl base w).alloc hbase _).trans hA.below, fun k hk hne => ?_, ?_⟩
  · rw [hA.but k (by simp; omega) hne]
    exact heap_alloc_old w _ hk
  · rcases hA.lies with e1 | ⟨ad, e1, hg⟩
    · exact .inl e1
    · exact .inr ⟨ad, e1, by simp at hg; omega⟩
end
/-- '[]byte(s)': its room may be written. -/
structure ConvO (P : Program) (src dst : TypeId) (l : List UInt8) (n : Nat) (cap : World → Nat) (W : World → World) (w : World) : Prop where
  run : (convert src dst (.string ⟨l.toArray⟩)).run P w = .ok (.slice (some ⟨w.heap.size, 0, none⟩) n (cap w)) (W w)
  own : OwnG (W w) w.heap.size (some ⟨w.heap.size, 0, none⟩) n (cap w) (u8s l)
  below : Below w.heap.size w (W w)
theorem conv_own {P : Program} (src dst e : TypeId) (l : List UInt8) (n : Nat) (hn : l.length = n) (hl : n ≤ 1000000000) (hs : P.underlying src = some .string) (hd : P.underlying dst = some (.slice e)) (he : P.underlying e = some (.int .u8)) :
    ∃ (cap : World → Nat) (W : World → World), ∀ w, ConvO P src dst l n cap W w := by
  subst hn
  refine ⟨fun w => grownCap w l.length 0 e, fun w => _, fun w => ⟨run_bytes_of_string w src dst e ⟨l.toArray⟩ hs hd he, ?_, ((Below.refl _ _).drew).alloc (Nat.le_refl _) _⟩⟩
  have e0 : (⟨l.toArray⟩ : ByteArray).size = l.length := rfl
  rw [e0]
  have hge := grownCap_ge w l.length 0 e
  have hmx := grownCap_le_maxLen w l.length 0 e (by unfold maxLen; omega)
  generalize grownCap w l.length 0 e = G at hge hmx
  have hsz : (bytesRow ⟨l.toArray⟩ G).size = G := by
    simp [bytesRow, ByteArray.size]
    omega
  have hg : (w.drew.alloc (.cells (bytesRow ⟨l.toArray⟩ G) e ((bytesRow ⟨l.toArray⟩ G).size, (bytesRow ⟨l.toArray⟩ G).size + 1))).heap[w.heap.size]? = some (.cells (bytesRow ⟨l.toArray⟩ G) e ((bytesRow ⟨l.toArray⟩ G).size, (bytesRow ⟨l.toArray⟩ G).size + 1)) := by
    show (w.heap.push _)[w.heap.size]? = _
    simp
  refine ⟨hge, hmx, fun e => by (cases e), ?_, fun ad e => ?_, fun ad e j h1 h2 => ?_⟩
  · have h := Rd.of_row hg 0 l.length (by rw [hsz]; omega)
    have e1 : ((bytesRow ⟨l.toArray⟩ G).toList.drop 0).take l.length = u8s l := by simp [bytesRow, u8s]
    rwa [e1] at h
  · injection e with e; subst e; exact ⟨rfl, Nat.le_refl _⟩
  · injection e with e; subst e
    simp only [Nat.zero_add]
    refine ⟨?_, ?_⟩
    · rw [cell_of_row _ _ _ _ _ _ hg]
      simp
      omega
    · unfold World.frozen?
      simp only [hg]
      simp
      omega
end Go.Proofs.YtnmhfomnlnlflaaDoor
/- Blocks of the call's own, old ones (S) and such as were made since w0; all else as it was. No condition. -/
namespace Go.Proofs.YtnmhfomnlnlflaaDoor
open Go.RowKit
structure MemW (S : List Nat) (w0 w : World) (L : List (Nat × TypeId × List Value)) : Prop where
  arr : ∀ x ∈ L, Arr w x.1 x.2.1 x.2.2
  dis : L.Pairwise fun a b => b.1 < a.1
  own : ∀ x ∈ L, x.1 ∈ S ∨ w0.heap.size ≤ x.1
  os : w.os = w0.os
  tape : w.tape = w0.tape
  output : w.output = w0.output
  size : w0.heap.size ≤ w.heap.size
  rest : ∀ k, k < w0.heap.size → k ∉ S → w.heap[k]? = w0.heap[k]?
section
variable {S : List Nat} {B g : Nat} {w0 w w' : World} {L : List (Nat × TypeId × List Value)} {t : TypeId} {cs : List Value}
theorem MemW.of_mem (h : Mem B w0 w L) : MemW (L.map (·.1)) w w L :=
  ⟨h.arr, h.dis, fun x hx => .inl (List.mem_map.2 ⟨x, hx, rfl⟩), rfl, rfl, rfl, Nat.le_refl _, fun _ _ _ => rfl⟩
theorem MemW.nil (w : World) : MemW [] w w [] := ⟨fun x h => by simp at h, List.Pairwise.nil, fun x h => by simp at h, rfl, rfl, rfl, Nat.le_refl _, fun _ _ _ => rfl⟩
theorem MemW.below (h : MemW S w0 w L) {B : Nat} (hS : ∀ k ∈ S, B ≤ k) (hB : B ≤ w0.heap.size) : Below B w0 w :=
  ⟨h.os, h.tape, h.output, h.size, fun k hk => h.rest k (by omega) fun hm => by have := hS k hm; omega⟩
theorem MemW.grow (h : MemW S w0 w L) (hS : S = []) : Gr w0 w := h.below (by rw [hS]; simp) (Nat.le_refl _)
theorem MemW.at_ (h : MemW S w0 w L) (k : Nat) (hk : L[k]? = some (g, t, cs)) : Arr w g t cs := h.arr _ (List.mem_of_getElem? hk)
theorem MemW.lt (h : MemW S w0 w L) (k : Nat) (hk : L[k]? = some (g, t, cs)) : g < w.heap.size := (h.at_ k hk).lt
theorem MemW.cell (h : MemW S w0 w L) {p : Addr} {v : Value} (hc : w0.cell? p = some v) (hp : p.block ∉ S) : w.cell? p = some v :=
  (World.cell?_of_block (h.rest _ (lt_of_cell hc) hp)).trans hc
theorem MemW.rd (h : MemW S w0 w L) {A : Option Addr} {n : Nat} {xs : List Value} (hr : Rd w0 A n xs) (hA : ∀ ad, A = some ad → ad.block ∉ S) : Rd w A n xs :=
  ⟨hr.1, fun i u hu => by
    obtain ⟨ad, e, hc⟩ := hr.2 i u hu
    exact ⟨ad, e, h.cell hc (by rw [add_block]; exact hA ad e)⟩⟩
theorem MemW.gr (h : MemW S w0 w L) (hG : Gr w w') : MemW S w0 w' L :=
  ⟨fun x hx => (h.arr x hx).gr hG, h.dis, h.own, hG.os.trans h.os, hG.tape.trans h.tape, hG.output.trans h.output, Nat.le_trans h.size hG.size,
    fun k hk hS => (hG.block k (Nat.lt_of_lt_of_le hk h.size)).trans (h.rest k hk hS)⟩
theorem Dr.gr (h : Dr w w') : Gr w w' := by obtain ⟨k, rfl⟩ := h; exact ⟨rfl, rfl, rfl, Nat.le_refl _, fun _ _ => rfl⟩
theorem MemW.dr (h : MemW S w0 w L) (hd : Dr w w') : MemW S w0 w' L := h.gr hd.gr
theorem MemW.cons (h : MemW S w0 w L) (hG : Gr w w') {n : Nat} (ha : Arr w' n t cs) (hn : w.heap.size ≤ n) : MemW S w0 w' ((n, t, cs) :: L) := by
  have h' := h.gr hG
  refine ⟨fun x hx => ?_, List.pairwise_cons.2 ⟨fun y hy => ?_, h.dis⟩, fun x hx => ?_, h'.os, h'.tape, h'.output, h'.size, h'.rest⟩
  · rcases List.mem_cons.1 hx with rfl | hx
    · exact ha
    · exact h'.arr x hx
  · exact Nat.lt_of_lt_of_le (h.arr y hy).lt hn
  · rcases List.mem_cons.1 hx with rfl | hx
    · exact .inr (Nat.le_trans h.size hn)
    · exact h.own x hx
theorem MemW.new (h : MemW S w0 w L) {C : Array Value} (hC : C.toList = cs) : MemW S w0 (w.alloc (.cells C t)) ((w.heap.size, t, cs) :: L) :=
  h.cons (Gr.alloc _ _) (Arr.newAt rfl hC) (Nat.le_refl _)
theorem MemW.drop1 {x : Nat × TypeId × List Value} (h : MemW S w0 w (x :: L)) : MemW S w0 w L :=
  ⟨fun y hy => h.arr y (List.mem_cons_of_mem _ hy), (List.pairwise_cons.1 h.dis).2, fun y hy => h.own y (List.mem_cons_of_mem _ hy), h.os, h.tape, h.output, h.size, h.rest⟩
theorem MemW.turn (h : MemW S w0 w L) (k : Nat) (hk : L[k]? = some (g, t, cs)) {cs' : List Value} (ha : Arr w' g t cs') (ho : ∀ k, k < w.heap.size → k ≠ g → w'.heap[k]? = w.heap[k]?)
    (hb : Below g w w') : MemW S w0 w' (L.set k (g, t, cs')) := by
  have hlt : k < L.length := by
    rcases Nat.lt_or_ge k L.length with h1 | h1
    · exact h1
    · rw [List.getElem?_eq_none h1] at hk; cases hk
  refine ⟨fun x hx => ?_, pairwise_set_ h.dis hk cs', fun x hx => ?_, hb.os.trans h.os, hb.tape.trans h.tape, hb.output.trans h.output, Nat.le_trans h.size hb.size, fun j hj hS => ?_⟩
  · obtain ⟨i, hi⟩ := List.mem_iff_getElem?.1 hx
    rw [List.getElem?_set] at hi
    split at hi
    · injection hi with hi
      subst hi
      exact ha
    · rename_i hne
      have hx' := h.arr x (List.mem_of_getElem? hi)
      unfold Arr
      rw [ho _ hx'.lt (fun e => ?_)]
      · exact hx'
      have hil : i < L.length := by
        rcases Nat.lt_or_ge i L.length with h1 | h1
        · exact h1
        · rw [List.getElem?_eq_none h1] at hi; cases hi
      have e1 : L[i] = x := by rw [List.getElem?_eq_getElem hil] at hi; injection hi
      have e2 : L[k] = (g, t, cs) := by rw [List.getElem?_eq_getElem hlt] at hk; injection hk
      have hp := List.pairwise_iff_getElem.1 h.dis
      rcases Nat.lt_or_ge i k with h1 | h1
      · have := hp i k hil hlt h1
        rw [e1, e2] at this
        exact absurd this (by simp only; omega)
      · have := hp k i hlt hil (by omega)
        rw [e1, e2] at this
        exact absurd this (by simp only; omega)
  · obtain ⟨i, hi⟩ := List.mem_iff_getElem?.1 hx
    rw [List.getElem?_set] at hi
    split at hi
    · injection hi with hi
      subst hi
      have h2 := h.own _ (List.mem_of_getElem? hk)
      exact h2
    · exact h.own x (List.mem_of_getElem? hi)
  · rw [ho j (Nat.lt_of_lt_of_le hj h.size) (fun e => ?_)]
    · exact h.rest j hj hS
    · rcases h.own _ (List.mem_of_getElem? hk) with h1 | h1
      · exact hS (e ▸ h1)
      · simp only at h1; omega
/-- One cell stored. -/
theorem MemW.set (h : MemW S w0 w L) (k : Nat) (hk : L[k]? = some (g, t, cs)) (i : Nat) (v : Value) : MemW S w0 (w.setCell ⟨g, i, none⟩ v) (L.set k (g, t, cs.set i v)) :=
  h.turn k hk ((h.at_ k hk).set i v) (fun j _ hne => heap_setCell_other w ⟨g, i, none⟩ j v hne) (below_setCell (Nat.le_refl _))
variable {P : Program}
theorem wpList_putW {ops : Array Oper} {rest : List Oper} {op : Oper} {a : Act} {Q : Exit → Act → World → Prop} (h : MemW S w0 w L) (k : Nat) (hk : L[k]? = some (g, t, cs)) (hgd : op.guard = none) (ty : TypeId) (x y : Operand) (ho : op.op = .store ty x y)
    (vs : List Value) (hx : a.eval x = .pointer (some ⟨g, 0, none⟩)) (hy : a.eval y = .agg vs.toArray) (hn : cs.length = vs.length)
    (hi : (P.info? ty).map (·.size) = some vs.length) (h1 : ∀ v ∈ vs, v.oneCell' = true)
    (K : ∀ w2, MemW S w0 w2 (L.set k (g, t, vs)) → wpList P ops Q rest (a.put op.dst undef) w2) : wpList P ops Q (op :: rest) a w := by
  have hA := h.at_ k hk
  refine wpList_store_mid hgd ty x y ho g 0 vs.toArray hx hy (by have := hA.there; rw [hn] at this; simpa using this) (by simpa using hi) (all_oneCell_toArray h1) ?_
  exact K _ (h.turn k hk (hA.setAll vs hn.symm) (fun j _ hne => setCells_heap_other vs w 0 hne) (below_setCells (Nat.le_refl _) _ _ _))
theorem wpList_newW {ops : Array Oper} {rest : List Oper} {op : Oper} {a : Act} {Q : Exit → Act → World → Prop} {C : Array Value} (h : MemW S w0 w L) (hgd : op.guard = none) (ty : TypeId) (x y : Operand) (ho : op.op = .store ty x y)
    (b : Nat) (vs : List Value) (hx : a.eval x = .pointer (some ⟨b, 0, none⟩)) (hy : a.eval y = .agg vs.toArray) (hb : b = w.heap.size) (hn : C.size = vs.length)
    (hi : (P.info? ty).map (·.size) = some vs.length) (h1 : ∀ v ∈ vs, v.oneCell' = true)
    (K : ∀ w2, MemW S w0 w2 ((b, t, vs) :: L) → Gr w w2 → wpList P ops Q rest (a.put op.dst undef) w2) : wpList P ops Q (op :: rest) a (w.alloc (.cells C t)) :=
  wpList_new hgd ty x y ho b vs hx hy hb hn hi h1 fun w2 h2 h3 => K w2 (h.cons h3 h2 (by omega)) h3
theorem wpList_setW {ops : Array Oper} {rest : List Oper} {op : Oper} {a : Act} {Q : Exit → Act → World → Prop} (h : MemW S w0 w L) (k : Nat) (hk : L[k]? = some (g, t, cs)) (hgd : op.guard = none) (ty : TypeId) (x y : Operand) (ho : op.op = .store ty x y)
    (hT : (P.info? ty).map (·.size) = some 1) (i : Nat) (kd : IntKind) (z : Int) (hx : a.eval x = .pointer (some ⟨g, i, none⟩)) (hy : a.eval y = .int kd z) (hi : i < cs.length)
    (hK : ∀ w2, MemW S w0 w2 (L.set k (g, t, cs.set i (.int kd z))) → wpList P ops Q rest (a.put op.dst undef) w2) : wpList P ops Q (op :: rest) a w := by
  refine wpList_plain hgd fun K hKK => ?_
  unfold Oper.wp
  obtain ⟨dst, o, tt, ps, af, gd⟩ := op
  simp only at ho
  subst ho
  rw [run_store1 hT hx hy (by rw [(h.at_ k hk).cell (List.getElem?_eq_getElem hi)]; rfl) ((h.at_ k hk).frozen i)]
  exact hKK _ _ (hK _ (h.set k hk i _))
/-- Two variables just made, the one behind the other. -/
theorem mem_two {w w1 : World} (hb : Gr w w1) {t1 t2 : TypeId} {C1 C2 : Array Value} {l1 l2 : List Value} (h1 : C1.toList = l1) (h2 : C2.toList = l2) :
    Mem w.heap.size w ((w1.alloc (.cells C1 t1)).alloc (.cells C2 t2)) [(w1.heap.size + 1, t2, l2), (w1.heap.size, t1, l1)] := by
  have h := (((Mem.nil w).gr (Nat.le_refl _) hb).new (t := t1) (Nat.le_refl _) h1).new (t := t2) (Nat.le_refl _) h2
  rw [asz] at h
  exact h
end
end Go.Proofs.YtnmhfomnlnlflaaDoor
/- The walk of the document's Sum (SHA-256 by its rounds). No condition. -/
namespace Go.Proofs.YtnmhfomnlnlflaaDoor
open Go.RowKit
theorem blk_word {p : List UInt8} {j r : Nat} (hr : r < 16) : ((blkS p j).drop (4 * r)).take 4 = (p.drop (64 * j + 4 * r)).take 4 := by
  rw [blkS, List.drop_take, List.drop_drop, List.take_take, Nat.min_eq_left (by omega)]
theorem addU_comm4 (a b c d : UInt32) : a + b + c + d = d + c + b + a := by ac_rfl
/-- A slice that reads the text, its mark and some noughts, and may be written behind. -/
def PadR (w3 : World) (m z : Nat) (l : List UInt8) (v : Value) (wr : World) : Prop :=
  ∃ (k : Nat) (A : Option Addr) (c : Nat), k ≤ z ∧ v = .slice A (m + 1 + k) c ∧ OwnG wr w3.heap.size A (m + 1 + k) c (u8s (markS l k)) ∧ Gr w3 wr
set_option maxRecDepth 100000 in
set_option maxHeartbeats 8000000 in
theorem refSum_any (l : List UInt8) (hl : l.length ≤ 1000000) (w : World) :
    Calls Tryd.prog 76 #[.string ⟨l.toArray⟩] w fun e w' => e = .returned (.string ⟨(shaL l).toArray⟩) ∧ Below w.heap.size w w' := by
  obtain ⟨i0, hi0, hz0, hz1, hz2⟩ := info_parts Tryd.info5
  have hcs := fun w => constants_any w
  obtain ⟨KL, hKL⟩ : ∃ x, x = (u32s keysL).toArray := ⟨_, rfl⟩
  obtain ⟨SL, hSL⟩ : ∃ x, x = (u32s startL).toArray := ⟨_, rfl⟩
  rw [← hKL, ← hSL] at hcs
  obtain ⟨m, hm⟩ : ∃ m, m = l.length := ⟨_, rfl⟩
  obtain ⟨cap, Wc, hcv0⟩ := conv_own (P := Tryd.prog) 9 27 5 l m hm.symm (by omega) Tryd.underlying9 Tryd.underlying27 Tryd.underlying5
  obtain ⟨s, hs⟩ : ∃ s : ByteArray, s = ⟨l.toArray⟩ := ⟨_, rfl⟩
  have hcv := fun w => (hcv0 w).run
  have hss : s.size = m := by rw [hs, hm]; rfl
  rw [← hs] at hcv ⊢
  rw [← hm] at hl
  have HM := Lib.hid hm
  have HKL := Lib.hid hKL
  have HSL := Lib.hid hSL
  have HCS := Lib.hid hcs
  have HCV := Lib.hid hcv0
  have HS := Lib.hid hs
  clear hcs hKL hSL hm hcv0 hs
  go_enter Tryd.func76, Tryd.ntmps76
  go_wp2_with first
    | (go_at_call 91; refine (HCS.out _).mono ?_; rintro e w1 ⟨rfl, hB1⟩)
    | (refine wpList_putM (mem_two hB1 (l1 := u32s (List.replicate 64 0)) (l2 := u32s (List.replicate 8 0)) (by kernel_rfl) (by kernel_rfl)) 1 rfl rfl 130 (.tmp 3) (.tmp 23) rfl (u32s keysL) rfl (by rw [← HKL.out]; rfl) (by simp [keysL]) (info64 keysL rfl) (u32s_oneCell _) ?_; intro w2 hM2 _; simp only [List.set] at hM2)
    | (refine wpList_putM hM2 0 rfl rfl 112 (.tmp 4) (.tmp 24) rfl (u32s startL) rfl (by rw [← HSL.out]; rfl) (by simp [startL]) (info8 startL rfl) (u32s_oneCell _) ?_; intro w3 hM3 _; simp only [List.set] at hM3)
    | (at_builtin; go_must (refine wpList_appG1 (w := Wc w3) rfl (.tmp 27) (.tmp 28) 27 5 rfl i0 (.int .u8 0) Tryd.underlying27 hi0 hz0 hz1 (by rw [hz2]; omega) rfl rfl (HCV.out w3).own _ (.int .u8 ((128 : UInt8).toNat : Int)) rfl rfl rfl (by omega) (HCV.out w3).below.size ?_); intro A2 c2 w4 hA4)
  have hG3 : Gr w w3 := hM3.below
  have ho2 := hA4.own
  have hG4 : Gr w3 w4 := Below.trans (HCV.out w3).below hA4.below
  rw [show u8s l ++ [Value.int .u8 ((128 : UInt8).toNat : Int)] = u8s (markS l 0) by simp [markS, u8s]] at ho2
  generalize w1.heap.size = g3 at hM3 ⊢
  obtain ⟨g4, hg4⟩ : ∃ g, g = g3 + 1 := ⟨_, rfl⟩
  rw [← hg4] at hM3
  simp only [← hg4]
  clear hA4 hB1 hM2 hg4
  go_simp
  obtain ⟨z, hz⟩ : ∃ z, z = (119 - m % 64) % 64 := ⟨_, rfl⟩
  have hzl : z < 64 := by rw [hz]; exact Nat.mod_lt _ (by omega)
  have HZ : Hid (∀ k, k ≤ z → ((m + 1 + k) % 64 = 56 ↔ k = z)) := by intro k hk; omega
  have HZE := Lib.hid hz
  clear hz
  go_loopw [5] (fun v wr => PadR w3 m z l v wr) (fun v _ => m + 1 + z - lenSl v)
  case atStart => exact ⟨0, A2, c2, by omega, rfl, ho2, hG4⟩
  case round =>
    clear ho2 hG4
    obtain ⟨k, A3, c3, hk, rfl, hown, hG5⟩ := hrel
    have hz1 := HZ.out k hk
    obtain ⟨q, hq⟩ : ∃ q, q = m + 1 + k := ⟨_, rfl⟩
    rw [← hq] at hown hz1 ⊢
    have hbs := hG5.size
    have HQ := Lib.hid hq
    have hql : q ≤ 1000100 := by omega
    by_cases hlt : k < z
    · have t1 : (((q : Int) % 64) == 56) = false := by rw [beq_eq_false_iff_ne]; omega
      have t2 : (((q : Int) % 64) != 56) = true := by rw [bne_iff_ne]; omega
      clear hz1 hq
      go_wp2_with (at_builtin; go_must (refine wpList_appG1 (w := wr) rfl (.tmp 34) (.tmp 35) 27 5 rfl i0 (.int .u8 0) Tryd.underlying27 hi0 hz0 hz1 (by rw [hz2]; omega) rfl rfl hown _ (.int .u8 ((0 : UInt8).toNat : Int)) rfl rfl rfl (by omega) hbs ?_); intro A6 c6 w6 hA6)
      have ho := hA6.own
      have hG6 : Gr w3 w6 := Below.trans hG5 hA6.below
      rw [← markS_succ] at ho
      have HG6 := Lib.hid hG6
      clear hA6 hown hG5 hG6
      go_simp
      have hq2 := HQ.out
      refine ⟨⟨k + 1, A6, c6, by omega, by rw [hq2]; rfl, by rw [show m + 1 + (k + 1) = q + 1 by omega]; exact ho, HG6.out⟩, ?_⟩
      show m + 1 + z - (q + 1) < m + 1 + z - q
      omega
    · obtain rfl : k = z := by omega
      have t1 : (((q : Int) % 64) == 56) = true := by rw [beq_iff_eq]; omega
      have t2 : (((q : Int) % 64) != 56) = false := by rw [bne_eq_false_iff_eq]; omega
      have hpad : markS l k ++ (leBytes 8 (m * 8)).reverse = padS l := by rw [markS, padS, HZE.out, HM.out]
      obtain ⟨N, hN1, hN2⟩ := padS_length l
      obtain ⟨p, hp⟩ : ∃ p, p = padS l := ⟨_, rfl⟩
      rw [← hp] at hpad hN1
      rw [← HM.out] at hN2
      have HP := Lib.hid hp
      have hpl : p.length = 64 * N := hN1
      have hNl : 64 * N ≤ 1000100 := by omega
      have hq8 : q + 8 = 64 * N := by
        rw [← hpl, ← hpad, List.length_append, markS_length]
        have e1 := HQ.out
        have e2 := HM.out
        simp
        omega
      have hput := fun w => refPut_any (m * 8) (by omega) 8 true w
      rw [show (min (8 : Int) 64).toNat = 8 from rfl, show putL true 8 (m * 8) = (leBytes 8 (m * 8)).reverse from rfl] at hput
      obtain ⟨u, hu⟩ : ∃ u, u = (leBytes 8 (m * 8)).reverse := ⟨_, rfl⟩
      have hul : u.length = 8 := by rw [hu]; simp
      rw [← hu] at hput hpad
      have HPUT := Lib.hid hput
      have HQ8 := Lib.hid hq8
      have HPL := Lib.hid hpl
      have HPAD := Lib.hid hpad
      clear hp hN1 hN2 hpl hq8 hpad hput hu hz1 hq hzl HZ hk hlt
      go_wp2_with first
        | (go_at_call 57; refine (HPUT.out _).mono ?_; rintro e w6 ⟨rfl, hB6⟩; have hown6 := hown.gr hB6)
        | (at_builtin; go_must (refine wpList_appG (w := w6) rfl (.tmp 37) (.tmp 42) 27 9 5 rfl i0 (.int .u8 0) Tryd.underlying27 hi0 hz0 hz1 (by rw [hz2]; omega) rfl rfl hown6 _ rfl (Src.ofStr Tryd.underlying9 u hul) (by omega) (Nat.le_trans hbs hB6.size) ?_); intro A7 c7 w7 hA7)
      have ho7 := hA7.own
      rw [← u8s_append, HPAD.out, HQ8.out] at ho7
      have hG7 : Gr w3 w7 := Below.trans (Below.trans hG5 (hB6.mono hbs)) hA7.below
      have hM7 := hM3.gr (Nat.le_refl _) hG7
      have hr7 := ho7.rd
      have hc7 := ho7.le
      have hA7b : ∀ ad, A7 = some ad → ad.block ∉ [g4, g3] := by
        intro ad e
        have h1 := (ho7.plain ad e).2
        have h2 := hM3.lt 0 rfl
        have h3 := hM3.lt 1 rfl
        simp
        omega
      have hM3lt : w.heap.size ≤ g3 ∧ w.heap.size ≤ g4 := ⟨hM3.le 1 rfl, hM3.le 0 rfl⟩
      have hW := MemW.of_mem hM7
      simp only [List.map] at hW
      clear hA7 hown6 hown hB6 ho7 hG5 hM3
      rw [HQ8.out]
      go_simp
      obtain ⟨H, hH⟩ : ∃ H : Nat → List UInt32, H = hashN p := ⟨_, rfl⟩
      have HHL : Hid (∀ k, (H k).length = 8) := by intro k; rw [hH]; exact hashN_length p k
      have HHS : Hid (∀ k, mixU (H k) (blkS p k) = H (k + 1)) := by intro k; rw [hH]; rfl
      have HHE : Hid (∀ k, k = N → shaL l = outS (H k)) := by
        intro k hk
        rw [hk, hH, shaL, ← HP.out, HPL.out, Nat.mul_div_cancel_left _ (by omega)]
      have hH0 : u32s startL = u32s (H 0) := by rw [hH]; rfl
      have hKk : ∃ ks, ks = keysL := ⟨_, rfl⟩
      obtain ⟨ks, hks⟩ := hKk
      have hksl : ks.length = 64 := by rw [hks]; rfl
      rw [hH0, ← hks] at hW
      have HKS := Lib.hid hks
      clear hH hH0 hks hM7
      go_loopw [6] (fun iv wr => ∃ k : Nat, k ≤ N ∧ iv = .int .i64 ((64 * k : Nat) : Int) ∧ MemW [g4, g3] w7 wr [(g4, 112, u32s (H k)), (g3, 130, u32s ks)]) (fun i _ => 64 * N - (intOf i).toNat)
      case atStart => exact ⟨0, by omega, rfl, hW⟩
      case round =>
        clear hW
        obtain ⟨j, hj, rfl, hW⟩ := hrel
        obtain ⟨o, ho⟩ : ∃ o, o = 64 * j := ⟨_, rfl⟩
        rw [← ho]
        have hol : o ≤ 1000100 := by omega
        by_cases hlt : j < N
        · have hoN : o < 64 * N := by omega
          have ho64 : o + 64 ≤ 64 * N := by omega
          obtain ⟨b, hb⟩ : ∃ b, b = blkS p j := ⟨_, rfl⟩
          obtain ⟨h0, hh0⟩ : ∃ h, h = H j := ⟨_, rfl⟩
          have hh0l : h0.length = 8 := by rw [hh0]; exact HHL.out j
          have hst := HHS.out j
          rw [← hh0, ← hb] at hst
          rw [← hh0] at hW
          have HST := Lib.hid hst
          have HB := Lib.hid hb
          have HO := Lib.hid ho
          clear hb hh0 hst ho
          go_wp2_with fail
          generalize hW8 : wr.alloc _ = W8
          obtain ⟨g7, hg7⟩ : ∃ g, g = wr.heap.size := ⟨_, rfl⟩
          obtain ⟨F, hF⟩ : ∃ F : Nat → List UInt32, F = wA b := ⟨_, rfl⟩
          have HFL : Hid (∀ r, (F r).length = 64) := by intro r; rw [hF]; simp
          have HFS : Hid (∀ r, (F r).set r (wordB b r) = F (r + 1)) := by intro r; rw [hF]; rfl
          have HFE : Hid (∀ r, F r = wA b r) := by intro r; rw [hF]
          replace hW : MemW [g4, g3] w7 W8 [(g7, 130, u32s (F 0)), (g4, 112, u32s h0), (g3, 130, u32s ks)] := by
            rw [← hW8, hg7, hF]
            exact hW.new (by kernel_rfl)
          simp only [← hg7]
          clear hF hg7 hW8
          go_simp
          go_loopw [8] (fun i wr => ∃ r : Nat, r ≤ 16 ∧ i = .int .i64 r ∧ MemW [g4, g3] w7 wr [(g7, 130, u32s (F r)), (g4, 112, u32s h0), (g3, 130, u32s ks)]) (fun i _ => 16 - (intOf i).toNat)
          case atStart => exact ⟨0, by omega, rfl, hW⟩
          case round =>
            clear hW
            obtain ⟨r, hr16, rfl, hW⟩ := hrel
            by_cases hl16 : r < 16
            · have hcut := fun w1 => run_cut_lh (P := Tryd.prog) Tryd.underlying27 (by kernel_rfl) (A := A7) (n := 64 * N) (c := c7) (lo := o + 4 * r) (hi := o + 4 * r + 4) (l := (o : Int) + 4 * (r : Int)) (h := (o : Int) + 4 * (r : Int) + 4) (by omega) (by omega) (by omega) (by omega) w1
              rw [show o + 4 * r + 4 - (o + 4 * r) = 4 by omega] at hcut
              have hrd := (hW.rd hr7 hA7b).cutLH (lo := o + 4 * r) (hi := o + 4 * r + 4) (by omega) (by omega) hc7
              rw [show o + 4 * r + 4 - (o + 4 * r) = 4 by omega, u8s_drop, u8s_take] at hrd
              have hbw : (p.drop (o + 4 * r)).take 4 = (b.drop (4 * r)).take 4 := by rw [HB.out, HO.out, blk_word hl16]
              rw [hbw] at hrd
              have hcv2 := fun c => run_str (P := Tryd.prog) (c := c) wr Tryd.underlying27 Tryd.underlying5 Tryd.underlying9 hrd
              have hwd := fun w => refWord_high ((b.drop (4 * r)).take 4) (by rw [List.length_take]; omega) w
              simp only [← wordB_toNat (b := b) (k := r)] at hwd
              obtain ⟨x, hx⟩ : ∃ x, x = wordB b r := ⟨_, rfl⟩
              obtain ⟨lw, hlw⟩ : ∃ lw, lw = (b.drop (4 * r)).take 4 := ⟨_, rfl⟩
              rw [← hx] at hwd
              rw [← hlw] at hwd hcv2
              have c3 := (hW.at_ 0 rfl).u32 (a := r) (by rw [HFL.out]; omega)
              have f3 := (hW.at_ 0 rfl).frozen r
              have hW' := hW.set 0 rfl r (.int .u32 (x.toNat : Int))
              rw [u32s_set, hx, HFS.out r, ← hx] at hW'
              simp only [List.set] at hW'
              have HWD := Lib.hid hwd
              have hxl := x.toNat_lt
              have hCV := hcv2 (c7 - (o + 4 * r))
              clear hx hlw hwd hbw hrd hcv2
              go_wp2_with (go_at_call 92; refine (HWD.out _).mono ?_; rintro e w1 ⟨rfl, rfl⟩)
              exact ⟨⟨r + 1, by omega, by go_num, hW'⟩, by simp [intOf]; omega⟩
            · obtain rfl : r = 16 := by omega
              obtain ⟨G, hG⟩ : ∃ G : Nat → List UInt32, G = wB (F 16) := ⟨_, rfl⟩
              have HGL : Hid (∀ r, (G r).length = 64) := by intro r; rw [hG, wB_length, HFL.out]
              have HGS : Hid (∀ r, (G r).set (16 + r) (wS (G r) r) = G (r + 1)) := by intro r; rw [hG]; rfl
              have HGE : Hid (∀ r, r = 48 → schedU b = G r) := by intro r hr; rw [hr, hG, HFE.out]; rfl
              have hG0 : F 16 = G 0 := by rw [hG]; rfl
              rw [hG0] at hW
              clear hG hG0 hl16 hr16
              simp only [show ((16 : Nat) : Int) = 16 from rfl]
              go_wp2_with fail
              go_simp
              go_loopw [9] (fun i wr => ∃ r : Nat, r ≤ 48 ∧ i = .int .i64 ((16 + r : Nat) : Int) ∧ MemW [g4, g3] w7 wr [(g7, 130, u32s (G r)), (g4, 112, u32s h0), (g3, 130, u32s ks)]) (fun i _ => 64 - (intOf i).toNat)
              case atStart => exact ⟨0, by omega, rfl, hW⟩
              case round =>
                clear hW
                obtain ⟨r, hr, rfl, hW⟩ := hrel
                obtain ⟨t, ht⟩ : ∃ t, t = 16 + r := ⟨_, rfl⟩
                rw [← ht]
                by_cases hlt64 : t < 64
                · have ht16 : 16 ≤ t := by omega
                  obtain ⟨x2, hx2⟩ : ∃ x, x = (G r).getD (t - 2) 0 := ⟨_, rfl⟩
                  obtain ⟨x7, hx7⟩ : ∃ x, x = (G r).getD (t - 7) 0 := ⟨_, rfl⟩
                  obtain ⟨x15, hx15⟩ : ∃ x, x = (G r).getD (t - 15) 0 := ⟨_, rfl⟩
                  obtain ⟨x16, hx16⟩ : ∃ x, x = (G r).getD (t - 16) 0 := ⟨_, rfl⟩
                  have c2 := (hW.at_ 0 rfl).u32 (a := t - 2) (by rw [HGL.out]; omega)
                  have c15 := (hW.at_ 0 rfl).u32 (a := t - 15) (by rw [HGL.out]; omega)
                  have c7w := fun w1 (h : Gr wr w1) => ((hW.gr h).at_ 0 rfl).u32 (a := t - 7) (by rw [HGL.out]; omega)
                  have c16w := fun w1 (h : Gr wr w1) => ((hW.gr h).at_ 0 rfl).u32 (a := t - 16) (by rw [HGL.out]; omega)
                  rw [← hx2] at c2
                  rw [← hx7] at c7w
                  rw [← hx15] at c15
                  rw [← hx16] at c16w
                  obtain ⟨x, hx⟩ : ∃ x, x = x16 + (rr x15 7 ^^^ rr x15 18 ^^^ x15 >>> UInt32.ofNat 3) + x7 + (rr x2 17 ^^^ rr x2 19 ^^^ x2 >>> UInt32.ofNat 10) := ⟨_, rfl⟩
                  have hxs : (G r).set t x = G (r + 1) := by
                    rw [← HGS.out r, ht, hx, wS, hx2, hx7, hx15, hx16, ht, show 16 + r - 2 = 14 + r by omega, show 16 + r - 7 = 9 + r by omega, show 16 + r - 15 = 1 + r by omega, show 16 + r - 16 = r by omega, addU_comm4]
                    rfl
                  have HXS := Lib.hid hxs
                  have HX := Lib.hid hx
                  have HT := Lib.hid ht
                  have HC7 := Lib.hid c7w
                  have HC16 := Lib.hid c16w
                  have hlr : r < 48 := by omega
                  clear hx2 hx7 hx15 hx16 hx hxs ht c7w c16w
                  go_wp2_with fail
                  refine wp_region_ssaL (by kernel_rfl) [IsV (.int .i64 ((t : Nat) : Int)), IsV (.int .i64 ((t - 15 : Nat) : Int)), IsV (.pointer (some ⟨g7, t - 15, none⟩)), IsV (.int .u32 ((x15).toNat : Int)), IsV (.int .i64 ((t : Nat) : Int)), IsV (.int .i64 ((t - 2 : Nat) : Int)), IsV (.pointer (some ⟨g7, t - 2, none⟩)), IsV (.int .u32 ((x2).toNat : Int)), IsV (.int .u32 ((x15).toNat : Int)), IsV (.int .u32 ((x2).toNat : Int))] (by kernel_rfl) ?_ ?_ ?_
                  · intro φ hφ v w1 w2 h hg
                    simp only [List.mem_cons, List.not_mem_nil, or_false] at hφ
                    rcases hφ with rfl | rfl | rfl | rfl | rfl | rfl | rfl | rfl | rfl | rfl
                    all_goals first | exact h | exact RdV.gr h hg
                  · refine ⟨?_, ?_, ?_, ?_, ?_, ?_, ?_, ?_, ?_, ?_, trivial⟩
                    · intro a1 w1 hG hF
                      exact s_old rfl (wants0 rfl) (.tmp 9) (.inr rfl) (.int .i64 ((t : Nat) : Int)) (hF.ol 9 (by kernel_rfl)) rfl
                    · intro a1 w1 hG hF
                      obtain ⟨_, e74, rfl⟩ := hF.dp 0 74 (by kernel_rfl)
                      exact s_is rfl (wants0 rfl) _ rfl (run_subN (a := t) (b := 15) e74 rfl (by omega) (by omega))
                    · intro a1 w1 hG hF
                      have e7 : a1.eval (.tmp 7) = .pointer (some ⟨g7, 0, none⟩) := hF.ol 7 (by kernel_rfl)
                      obtain ⟨_, e75, rfl⟩ := hF.dp 1 75 (by kernel_rfl)
                      exact s_is rfl (wants0 rfl) _ rfl (run_idx (i := t - 15) Tryd.underlying130 (by kernel_rfl) e7 e75 (by omega))
                    · intro a1 w1 hG hF
                      obtain ⟨_, e76, rfl⟩ := hF.dp 2 76 (by kernel_rfl)
                      exact s_is rfl (wants0 rfl) _ rfl (run_load1 Tryd.underlying83 e76 (Gr.cell ((Gr.drew wr).trans hG) c15))
                    · intro a1 w1 hG hF
                      exact s_old rfl (wants0 rfl) (.tmp 9) (.inr rfl) (.int .i64 ((t : Nat) : Int)) (hF.ol 9 (by kernel_rfl)) rfl
                    · intro a1 w1 hG hF
                      obtain ⟨_, e78, rfl⟩ := hF.dp 4 78 (by kernel_rfl)
                      exact s_is rfl (wants0 rfl) _ rfl (run_subN (a := t) (b := 2) e78 rfl (by omega) (by omega))
                    · intro a1 w1 hG hF
                      have e7 : a1.eval (.tmp 7) = .pointer (some ⟨g7, 0, none⟩) := hF.ol 7 (by kernel_rfl)
                      obtain ⟨_, e79, rfl⟩ := hF.dp 5 79 (by kernel_rfl)
                      exact s_is rfl (wants0 rfl) _ rfl (run_idx (i := t - 2) Tryd.underlying130 (by kernel_rfl) e7 e79 (by omega))
                    · intro a1 w1 hG hF
                      obtain ⟨_, e80, rfl⟩ := hF.dp 6 80 (by kernel_rfl)
                      exact s_is rfl (wants0 rfl) _ rfl (run_load1 Tryd.underlying83 e80 (Gr.cell ((Gr.drew wr).trans hG) c2))
                    · intro a1 w1 hG hF
                      exact s_same rfl (wants0 rfl) (.tmp 77) (.inl rfl) (hF.dp 3 77 (by kernel_rfl))
                    · intro a1 w1 hG hF
                      exact s_same rfl (wants0 rfl) (.tmp 81) (.inl rfl) (hF.dp 7 81 (by kernel_rfl))
                  · intro vs w1 hG hf
                    have z10 : vs 8 = .int .u32 ((x15).toNat : Int) := hf.2.2.2.2.2.2.2.2.1
                    have z11 : vs 9 = .int .u32 ((x2).toNat : Int) := hf.2.2.2.2.2.2.2.2.2.1
                    clear hf
                    simp only [putAll, Nat.zero_add, Nat.reduceAdd, z10, z11]
                    have hGx := (Gr.drew wr).trans hG
                    have c7 := HC7.out w1 hGx
                    have c16 := HC16.out w1 hGx
                    replace hW := hW.gr hGx
                    clear z10 z11 c2 c15 hG hGx
                    generalize w1 = wx at hW c7 c16 ⊢
                    go_simp
                    go_wp2_with fail
                    refine wp_region_st (by kernel_rfl) [IsV (.int .i64 ((t : Nat) : Int)), IsV (.int .i64 ((t : Nat) : Int)), IsV (.int .i64 ((t - 16 : Nat) : Int)), IsV (.pointer (some ⟨g7, t - 16, none⟩)), IsV (.int .u32 ((x16).toNat : Int)), IsV (.int .u32 ((x15).toNat : Int)), IsV (.int .u32 ((rr x15 7).toNat : Int)), IsV (.int .u32 ((x15).toNat : Int)), IsV (.int .u32 ((rr x15 18).toNat : Int)), IsV (.int .u32 (((rr x15 7) ^^^ (rr x15 18)).toNat : Int)), IsV (.int .u32 ((x15).toNat : Int)), IsV (.int .u32 ((x15 >>> UInt32.ofNat 3).toNat : Int)), IsV (.int .u32 ((((rr x15 7) ^^^ (rr x15 18)) ^^^ (x15 >>> UInt32.ofNat 3)).toNat : Int)), IsV (.int .u32 ((x16 + (((rr x15 7) ^^^ (rr x15 18)) ^^^ (x15 >>> UInt32.ofNat 3))).toNat : Int)), IsV (.int .i64 ((t : Nat) : Int)), IsV (.int .i64 ((t - 7 : Nat) : Int)), IsV (.pointer (some ⟨g7, t - 7, none⟩)), IsV (.int .u32 ((x7).toNat : Int)), IsV (.int .u32 (((x16 + (((rr x15 7) ^^^ (rr x15 18)) ^^^ (x15 >>> UInt32.ofNat 3))) + x7).toNat : Int)), IsV (.int .u32 ((x2).toNat : Int)), IsV (.int .u32 ((rr x2 17).toNat : Int)), IsV (.int .u32 ((x2).toNat : Int)), IsV (.int .u32 ((rr x2 19).toNat : Int)), IsV (.int .u32 (((rr x2 17) ^^^ (rr x2 19)).toNat : Int)), IsV (.int .u32 ((x2).toNat : Int)), IsV (.int .u32 ((x2 >>> UInt32.ofNat 10).toNat : Int)), IsV (.int .u32 ((((rr x2 17) ^^^ (rr x2 19)) ^^^ (x2 >>> UInt32.ofNat 10)).toNat : Int)), IsV (.int .u32 ((x).toNat : Int)), IsV (.pointer (some ⟨g7, t, none⟩))] 29 _ rfl rfl rfl (by kernel_rfl) (by kernel_rfl) ?_ (⟨g7, t, none⟩ : Addr) (.int .u32 ((x).toNat : Int)) ?_ ?_ ?_
                    · intro φ hφ
                      simp only [List.mem_cons, List.not_mem_nil, or_false] at hφ
                      rcases hφ with rfl | rfl | rfl | rfl | rfl | rfl | rfl | rfl | rfl | rfl | rfl | rfl | rfl | rfl | rfl | rfl | rfl | rfl | rfl | rfl | rfl | rfl | rfl | rfl | rfl | rfl | rfl | rfl | rfl <;> exact ⟨_, rfl⟩
                    · refine ⟨?_, ?_, ?_, ?_, ?_, ?_, ?_, ?_, ?_, ?_, ?_, ?_, ?_, ?_, ?_, ?_, ?_, ?_, ?_, ?_, ?_, ?_, ?_, ?_, ?_, ?_, ?_, ?_, ?_, trivial⟩
                      · intro a1 w1 hG hF
                        exact d_old rfl (wants0 rfl) (.tmp 9) (.inr rfl) (.int .i64 ((t : Nat) : Int)) (hF.ol 9 (by kernel_rfl)) rfl
                      · intro a1 w1 hG hF
                        exact d_old rfl (wants0 rfl) (.tmp 9) (.inr rfl) (.int .i64 ((t : Nat) : Int)) (hF.ol 9 (by kernel_rfl)) rfl
                      · intro a1 w1 hG hF
                        obtain ⟨_, e83, rfl⟩ := hF.dp 1 83 (by kernel_rfl)
                        exact d_is rfl (wants0 rfl) _ rfl (run_subN (a := t) (b := 16) e83 rfl (by omega) (by omega))
                      · intro a1 w1 hG hF
                        have e7 : a1.eval (.tmp 7) = .pointer (some ⟨g7, 0, none⟩) := hF.ol 7 (by kernel_rfl)
                        obtain ⟨_, e84, rfl⟩ := hF.dp 2 84 (by kernel_rfl)
                        exact d_is rfl (wants0 rfl) _ rfl (run_idx (i := t - 16) Tryd.underlying130 (by kernel_rfl) e7 e84 (by omega))
                      · intro a1 w1 hG hF
                        obtain ⟨_, e85, rfl⟩ := hF.dp 3 85 (by kernel_rfl)
                        exact d_is rfl (wants0 rfl) _ rfl (run_load1 Tryd.underlying83 e85 ((hG.cell _).trans c16))
                      · intro a1 w1 hG hF
                        exact d_old rfl (wants0 rfl) (.tmp 10) (.inr rfl) (.int .u32 ((x15).toNat : Int)) (hF.ol 10 (by kernel_rfl)) rfl
                      · intro a1 w1 hG hF
                        obtain ⟨_, e87, rfl⟩ := hF.dp 5 87 (by kernel_rfl)
                        exact d_call rfl (wants0 rfl) _ rfl _ _ (by simp only [execOp, resolve, invoke, List.map_toArray, List.map_cons, List.map_nil, e87]; go_simp) ((refRight_any x15 7 (by omega) w1).mono fun e w2 ⟨he, hw⟩ => ⟨he, hw ▸ Dr.refl _⟩)
                      · intro a1 w1 hG hF
                        exact d_old rfl (wants0 rfl) (.tmp 10) (.inr rfl) (.int .u32 ((x15).toNat : Int)) (hF.ol 10 (by kernel_rfl)) rfl
                      · intro a1 w1 hG hF
                        obtain ⟨_, e89, rfl⟩ := hF.dp 7 89 (by kernel_rfl)
                        exact d_call rfl (wants0 rfl) _ rfl _ _ (by simp only [execOp, resolve, invoke, List.map_toArray, List.map_cons, List.map_nil, e89]; go_simp) ((refRight_any x15 18 (by omega) w1).mono fun e w2 ⟨he, hw⟩ => ⟨he, hw ▸ Dr.refl _⟩)
                      · intro a1 w1 hG hF
                        obtain ⟨_, e88, rfl⟩ := hF.dp 6 88 (by kernel_rfl)
                        obtain ⟨_, e90, rfl⟩ := hF.dp 8 90 (by kernel_rfl)
                        exact d_is rfl (wants0 rfl) _ rfl (run_xor32 (a := rr x15 7) (b := rr x15 18) e88 e90)
                      · intro a1 w1 hG hF
                        exact d_old rfl (wants0 rfl) (.tmp 10) (.inr rfl) (.int .u32 ((x15).toNat : Int)) (hF.ol 10 (by kernel_rfl)) rfl
                      · intro a1 w1 hG hF
                        obtain ⟨_, e92, rfl⟩ := hF.dp 10 92 (by kernel_rfl)
                        exact d_is rfl (wants0 rfl) _ rfl (run_shr32w (a := x15) (k := 3) e92 rfl (by omega))
                      · intro a1 w1 hG hF
                        obtain ⟨_, e91, rfl⟩ := hF.dp 9 91 (by kernel_rfl)
                        obtain ⟨_, e93, rfl⟩ := hF.dp 11 93 (by kernel_rfl)
                        exact d_is rfl (wants0 rfl) _ rfl (run_xor32 (a := (rr x15 7) ^^^ (rr x15 18)) (b := x15 >>> UInt32.ofNat 3) e91 e93)
                      · intro a1 w1 hG hF
                        obtain ⟨_, e86, rfl⟩ := hF.dp 4 86 (by kernel_rfl)
                        obtain ⟨_, e94, rfl⟩ := hF.dp 12 94 (by kernel_rfl)
                        exact d_is rfl (wants0 rfl) _ rfl (run_add32 (a := x16) (b := ((rr x15 7) ^^^ (rr x15 18)) ^^^ (x15 >>> UInt32.ofNat 3)) e86 e94)
                      · intro a1 w1 hG hF
                        exact d_old rfl (wants0 rfl) (.tmp 9) (.inr rfl) (.int .i64 ((t : Nat) : Int)) (hF.ol 9 (by kernel_rfl)) rfl
                      · intro a1 w1 hG hF
                        obtain ⟨_, e96, rfl⟩ := hF.dp 14 96 (by kernel_rfl)
                        exact d_is rfl (wants0 rfl) _ rfl (run_subN (a := t) (b := 7) e96 rfl (by omega) (by omega))
                      · intro a1 w1 hG hF
                        have e7 : a1.eval (.tmp 7) = .pointer (some ⟨g7, 0, none⟩) := hF.ol 7 (by kernel_rfl)
                        obtain ⟨_, e97, rfl⟩ := hF.dp 15 97 (by kernel_rfl)
                        exact d_is rfl (wants0 rfl) _ rfl (run_idx (i := t - 7) Tryd.underlying130 (by kernel_rfl) e7 e97 (by omega))
                      · intro a1 w1 hG hF
                        obtain ⟨_, e98, rfl⟩ := hF.dp 16 98 (by kernel_rfl)
                        exact d_is rfl (wants0 rfl) _ rfl (run_load1 Tryd.underlying83 e98 ((hG.cell _).trans c7))
                      · intro a1 w1 hG hF
                        obtain ⟨_, e95, rfl⟩ := hF.dp 13 95 (by kernel_rfl)
                        obtain ⟨_, e99, rfl⟩ := hF.dp 17 99 (by kernel_rfl)
                        exact d_is rfl (wants0 rfl) _ rfl (run_add32 (a := x16 + (((rr x15 7) ^^^ (rr x15 18)) ^^^ (x15 >>> UInt32.ofNat 3))) (b := x7) e95 e99)
                      · intro a1 w1 hG hF
                        exact d_old rfl (wants0 rfl) (.tmp 11) (.inr rfl) (.int .u32 ((x2).toNat : Int)) (hF.ol 11 (by kernel_rfl)) rfl
                      · intro a1 w1 hG hF
                        obtain ⟨_, e101, rfl⟩ := hF.dp 19 101 (by kernel_rfl)
                        exact d_call rfl (wants0 rfl) _ rfl _ _ (by simp only [execOp, resolve, invoke, List.map_toArray, List.map_cons, List.map_nil, e101]; go_simp) ((refRight_any x2 17 (by omega) w1).mono fun e w2 ⟨he, hw⟩ => ⟨he, hw ▸ Dr.refl _⟩)
                      · intro a1 w1 hG hF
                        exact d_old rfl (wants0 rfl) (.tmp 11) (.inr rfl) (.int .u32 ((x2).toNat : Int)) (hF.ol 11 (by kernel_rfl)) rfl
                      · intro a1 w1 hG hF
                        obtain ⟨_, e103, rfl⟩ := hF.dp 21 103 (by kernel_rfl)
                        exact d_call rfl (wants0 rfl) _ rfl _ _ (by simp only [execOp, resolve, invoke, List.map_toArray, List.map_cons, List.map_nil, e103]; go_simp) ((refRight_any x2 19 (by omega) w1).mono fun e w2 ⟨he, hw⟩ => ⟨he, hw ▸ Dr.refl _⟩)
                      · intro a1 w1 hG hF
                        obtain ⟨_, e102, rfl⟩ := hF.dp 20 102 (by kernel_rfl)
                        obtain ⟨_, e104, rfl⟩ := hF.dp 22 104 (by kernel_rfl)
                        exact d_is rfl (wants0 rfl) _ rfl (run_xor32 (a := rr x2 17) (b := rr x2 19) e102 e104)
                      · intro a1 w1 hG hF
                        exact d_old rfl (wants0 rfl) (.tmp 11) (.inr rfl) (.int .u32 ((x2).toNat : Int)) (hF.ol 11 (by kernel_rfl)) rfl
                      · intro a1 w1 hG hF
                        obtain ⟨_, e106, rfl⟩ := hF.dp 24 106 (by kernel_rfl)
                        exact d_is rfl (wants0 rfl) _ rfl (run_shr32w (a := x2) (k := 10) e106 rfl (by omega))
                      · intro a1 w1 hG hF
                        obtain ⟨_, e105, rfl⟩ := hF.dp 23 105 (by kernel_rfl)
                        obtain ⟨_, e107, rfl⟩ := hF.dp 25 107 (by kernel_rfl)
                        exact d_is rfl (wants0 rfl) _ rfl (run_xor32 (a := (rr x2 17) ^^^ (rr x2 19)) (b := x2 >>> UInt32.ofNat 10) e105 e107)
                      · intro a1 w1 hG hF
                        obtain ⟨_, e100, rfl⟩ := hF.dp 18 100 (by kernel_rfl)
                        obtain ⟨_, e108, rfl⟩ := hF.dp 26 108 (by kernel_rfl)
                        exact d_is rfl (wants0 rfl) _ rfl (by rw [HX.out]; exact run_add32 (a := (x16 + (((rr x15 7) ^^^ (rr x15 18)) ^^^ (x15 >>> UInt32.ofNat 3))) + x7) (b := ((rr x2 17) ^^^ (rr x2 19)) ^^^ (x2 >>> UInt32.ofNat 10)) e100 e108)
                      · intro a1 w1 hG hF
                        have e7 : a1.eval (.tmp 7) = .pointer (some ⟨g7, 0, none⟩) := hF.ol 7 (by kernel_rfl)
                        obtain ⟨_, e82, rfl⟩ := hF.dp 0 82 (by kernel_rfl)
                        exact d_is rfl (wants0 rfl) _ rfl (run_idx (i := t) Tryd.underlying130 (by kernel_rfl) e7 e82 (by omega))
                    · intro a1 w1 hG hF
                      obtain ⟨_, e110, rfl⟩ := hF.dp 28 110 (by kernel_rfl)
                      obtain ⟨_, e109, rfl⟩ := hF.dp 27 109 (by kernel_rfl)
                      exact ⟨wants0 rfl, run_store1 (by kernel_rfl) e110 e109 (by rw [hG.cell]; exact (Option.isSome_iff_exists.2 ⟨_, (hW.at_ 0 rfl).u32 (a := t) (by rw [HGL.out]; omega)⟩)) (by rw [hG.frozen]; exact (hW.at_ 0 rfl).frozen _)⟩
                    intro vs k0 hf
                    clear hf
                    simp only [putAll, Nat.zero_add, Nat.reduceAdd]
                    have hW' := (hW.dr ⟨k0, rfl⟩).set 0 rfl t (.int .u32 (x.toNat : Int))
                    rw [u32s_set, HXS.out] at hW'
                    simp only [List.set] at hW'
                    generalize ((World.drewN _ k0).setCell _ _) = W1 at hW' ⊢
                    clear hW c7 c16
                    go_simp
                    go_wp2_with fail
                    have HT2 := HT.out
                    exact ⟨⟨r + 1, by omega, by congr 1; omega, hW'⟩, by simp [intOf]; omega⟩
                · obtain rfl : r = 48 := by omega
                  obtain rfl : t = 64 := by omega
                  have hSe := HGE.out 48 rfl
                  obtain ⟨S, hS⟩ : ∃ S, S = G 48 := ⟨_, rfl⟩
                  have hSl : S.length = 64 := by rw [hS]; exact HGL.out 48
                  rw [← hS] at hW hSe
                  have hmix : mixU h0 b = addU h0 (rndU h0 S 64) := by rw [← hSe]; rfl
                  have HMX := Lib.hid hmix
                  clear hS hSe HGE HGS HGL ht hlt64 hr hmix
                  simp only [show ((64 : Nat) : Int) = 64 from rfl]
                  go_wp2_with first
                    | (refine wpList_load_mid rfl 112 (.tmp 4) rfl g4 0 rfl (u32s h0) _ (hW.at_ 1 rfl).range Tryd.underlying112 rfl (info8 _ hh0l) ?_)
                    | (refine wpList_newW hW rfl 112 (.tmp 12) (.tmp 111) rfl _ (u32s h0) rfl rfl rfl (by simp only [u32s_length, hh0l]; rfl) (info8 h0 hh0l) (u32s_oneCell _) ?_; intro wv hWv _)
                  generalize wr.heap.size = g12 at hWv ⊢
                  obtain ⟨V, hV⟩ : ∃ V : Nat → List UInt32, V = rndU h0 S := ⟨_, rfl⟩
                  have HVL : Hid (∀ r, (V r).length = 8) := by intro r; rw [hV]; exact rndU_length S hh0l r
                  have HVS : Hid (∀ r, roundU (V r) (keysL.getD r 0) (S.getD r 0) = V (r + 1)) := by intro r; rw [hV]; rfl
                  have HVE : Hid (∀ r, r = 64 → H (j + 1) = addU h0 (V r)) := by intro r hr; rw [hr, hV, ← HST.out]; exact HMX.out
                  have hV0 : u32s h0 = u32s (V 0) := by rw [hV]; rfl
                  have hWv2 : MemW [g4, g3] w7 wv [(g12, 112, u32s (V 0)), (g7, 130, u32s S), (g4, 112, u32s h0), (g3, 130, u32s ks)] := by rw [← hV0]; exact hWv
                  clear hV hV0 HMX hWv hW
                  go_simp
                  go_loopw [13] (fun i wr => ∃ r : Nat, r ≤ 64 ∧ i = .int .i64 r ∧ MemW [g4, g3] w7 wr [(g12, 112, u32s (V r)), (g7, 130, u32s S), (g4, 112, u32s h0), (g3, 130, u32s ks)]) (fun i _ => 64 - (intOf i).toNat)
                  case atStart => exact ⟨0, by omega, rfl, hWv2⟩
                  case round =>
                    clear hWv2
                    obtain ⟨r, hr64, rfl, hW⟩ := hrel
                    by_cases hlt : r < 64
                    · obtain ⟨a, b1, c, d, e, f, g, i, hv⟩ := eightU (HVL.out r)
                      obtain ⟨ww, hww⟩ : ∃ x, x = S.getD r 0 := ⟨_, rfl⟩
                      obtain ⟨kk, hkk⟩ : ∃ x, x = ks.getD r 0 := ⟨_, rfl⟩
                      have cw := fun w1 (h : Gr wr w1) => ((hW.gr h).at_ 1 rfl).u32 (a := r) (by omega)
                      have ck := fun w1 (h : Gr wr w1) => ((hW.gr h).at_ 3 rfl).u32 (a := r) (by omega)
                      rw [← hww] at cw
                      rw [← hkk] at ck
                      rw [hv] at hW
                      obtain ⟨x, hx⟩ : ∃ x, x = i + (rr e 6 ^^^ rr e 11 ^^^ rr e 25) + (e &&& f ^^^ ~~~e &&& g) + kk + ww := ⟨_, rfl⟩
                      obtain ⟨y, hy⟩ : ∃ y, y = (rr a 2 ^^^ rr a 13 ^^^ rr a 22) + (a &&& b1 ^^^ a &&& c ^^^ b1 &&& c) := ⟨_, rfl⟩
                      have hnext : V (r + 1) = [x + y, a, b1, c, d + x, e, f, g] := by
                        rw [← HVS.out r, hv, ← HKS.out, ← hkk, ← hww, hx, hy]; rfl
                      have HX := Lib.hid hx
                      have HY := Lib.hid hy
                      have HNX := Lib.hid hnext
                      have HCW := Lib.hid cw
                      have HCK := Lib.hid ck
                      have q4 := (hW.at_ 0 rfl).cell (i := 4) rfl
                      have q0 := (hW.at_ 0 rfl).cell (i := 0) rfl
                      clear hv hww hkk hx hy hnext cw ck
                      go_wp2_with fail
                      refine wp_region_ssaL (by kernel_rfl) [IsV (.pointer (some ⟨g12, 4, none⟩)), IsV (.int .u32 ((e).toNat : Int)), IsV (.pointer (some ⟨g12, 0, none⟩)), IsV (.int .u32 ((a).toNat : Int)), IsV (.int .u32 ((e).toNat : Int)), IsV (.int .u32 ((a).toNat : Int))] (by kernel_rfl) ?_ ?_ ?_
                      · intro φ hφ v w1 w2 h hg
                        simp only [List.mem_cons, List.not_mem_nil, or_false] at hφ
                        rcases hφ with rfl | rfl | rfl | rfl | rfl | rfl
                        all_goals first | exact h | exact RdV.gr h hg
                      · refine ⟨?_, ?_, ?_, ?_, ?_, ?_, trivial⟩
                        · intro a1 w1 hG hF
                          have e12 : a1.eval (.tmp 12) = .pointer (some ⟨g12, 0, none⟩) := hF.ol 12 (by kernel_rfl)
                          exact s_is rfl (wants0 rfl) _ rfl (run_idx (i := 4) Tryd.underlying112 (by kernel_rfl) e12 rfl (by omega))
                        · intro a1 w1 hG hF
                          obtain ⟨_, e116, rfl⟩ := hF.dp 0 116 (by kernel_rfl)
                          exact s_is rfl (wants0 rfl) _ rfl (run_load1 Tryd.underlying83 e116 (Gr.cell ((Gr.drew wr).trans hG) q4))
                        · intro a1 w1 hG hF
                          have e12 : a1.eval (.tmp 12) = .pointer (some ⟨g12, 0, none⟩) := hF.ol 12 (by kernel_rfl)
                          exact s_is rfl (wants0 rfl) _ rfl (run_idx (i := 0) Tryd.underlying112 (by kernel_rfl) e12 rfl (by omega))
                        · intro a1 w1 hG hF
                          obtain ⟨_, e118, rfl⟩ := hF.dp 2 118 (by kernel_rfl)
                          exact s_is rfl (wants0 rfl) _ rfl (run_load1 Tryd.underlying83 e118 (Gr.cell ((Gr.drew wr).trans hG) q0))
                        · intro a1 w1 hG hF
                          exact s_same rfl (wants0 rfl) (.tmp 117) (.inl rfl) (hF.dp 1 117 (by kernel_rfl))
                        · intro a1 w1 hG hF
                          exact s_same rfl (wants0 rfl) (.tmp 119) (.inl rfl) (hF.dp 3 119 (by kernel_rfl))
                      · intro vs w1 hG hf
                        have z14 : vs 4 = .int .u32 ((e).toNat : Int) := hf.2.2.2.2.1
                        have z15 : vs 5 = .int .u32 ((a).toNat : Int) := hf.2.2.2.2.2.1
                        clear hf
                        simp only [putAll, Nat.zero_add, Nat.reduceAdd, z14, z15]
                        have cw := HCW.out _ ((Gr.drew wr).trans hG)
                        have ck := HCK.out _ ((Gr.drew wr).trans hG)
                        replace hW := hW.gr ((Gr.drew wr).trans hG)
                        clear z14 z15 q4 q0 hG
                        have q5 := (hW.at_ 0 rfl).cell (i := 5) rfl
                        have q6 := (hW.at_ 0 rfl).cell (i := 6) rfl
                        have q7 := (hW.at_ 0 rfl).cell (i := 7) rfl
                        generalize w1 = wx at hW cw ck q5 q6 q7 ⊢
                        go_simp
                        go_wp2_with fail
                        refine wp_region_ssaL (by kernel_rfl) [IsV (.pointer (some ⟨g12, 7, none⟩)), IsV (.int .u32 ((i).toNat : Int)), IsV (.int .u32 ((e).toNat : Int)), IsV (.int .u32 ((rr e 6).toNat : Int)), IsV (.int .u32 ((e).toNat : Int)), IsV (.int .u32 ((rr e 11).toNat : Int)), IsV (.int .u32 (((rr e 6) ^^^ (rr e 11)).toNat : Int)), IsV (.int .u32 ((e).toNat : Int)), IsV (.int .u32 ((rr e 25).toNat : Int)), IsV (.int .u32 ((((rr e 6) ^^^ (rr e 11)) ^^^ (rr e 25)).toNat : Int)), IsV (.int .u32 ((i + (((rr e 6) ^^^ (rr e 11)) ^^^ (rr e 25))).toNat : Int)), IsV (.int .u32 ((e).toNat : Int)), IsV (.pointer (some ⟨g12, 5, none⟩)), IsV (.int .u32 ((f).toNat : Int)), IsV (.int .u32 ((e &&& f).toNat : Int)), IsV (.int .u32 ((e).toNat : Int)), IsV (.int .u32 ((~~~e).toNat : Int)), IsV (.pointer (some ⟨g12, 6, none⟩)), IsV (.int .u32 ((g).toNat : Int)), IsV (.int .u32 (((~~~e) &&& g).toNat : Int)), IsV (.int .u32 (((e &&& f) ^^^ ((~~~e) &&& g)).toNat : Int)), IsV (.int .u32 (((i + (((rr e 6) ^^^ (rr e 11)) ^^^ (rr e 25))) + ((e &&& f) ^^^ ((~~~e) &&& g))).toNat : Int)), IsV (.int .i64 ((r : Nat) : Int)), IsV (.pointer (some ⟨g3, r, none⟩)), IsV (.int .u32 ((kk).toNat : Int)), IsV (.int .u32 ((((i + (((rr e 6) ^^^ (rr e 11)) ^^^ (rr e 25))) + ((e &&& f) ^^^ ((~~~e) &&& g))) + kk).toNat : Int)), IsV (.int .i64 ((r : Nat) : Int)), IsV (.pointer (some ⟨g7, r, none⟩)), IsV (.int .u32 ((ww).toNat : Int)), IsV (.int .u32 ((x).toNat : Int)), IsV (.int .u32 ((x).toNat : Int))] (by kernel_rfl) ?_ ?_ ?_
                        · intro φ hφ v w1 w2 h hg
                          simp only [List.mem_cons, List.not_mem_nil, or_false] at hφ
                          rcases hφ with rfl | rfl | rfl | rfl | rfl | rfl | rfl | rfl | rfl | rfl | rfl | rfl | rfl | rfl | rfl | rfl | rfl | rfl | rfl | rfl | rfl | rfl | rfl | rfl | rfl | rfl | rfl | rfl | rfl | rfl | rfl
                          all_goals first | exact h | exact RdV.gr h hg
                        · refine ⟨?_, ?_, ?_, ?_, ?_, ?_, ?_, ?_, ?_, ?_, ?_, ?_, ?_, ?_, ?_, ?_, ?_, ?_, ?_, ?_, ?_, ?_, ?_, ?_, ?_, ?_, ?_, ?_, ?_, ?_, ?_, trivial⟩
                          · intro a1 w1 hG hF
                            have e12 : a1.eval (.tmp 12) = .pointer (some ⟨g12, 0, none⟩) := hF.ol 12 (by kernel_rfl)
                            exact s_is rfl (wants0 rfl) _ rfl (run_idx (i := 7) Tryd.underlying112 (by kernel_rfl) e12 rfl (by omega))
                          · intro a1 w1 hG hF
                            obtain ⟨_, e120, rfl⟩ := hF.dp 0 120 (by kernel_rfl)
                            exact s_is rfl (wants0 rfl) _ rfl (run_load1 Tryd.underlying83 e120 (Gr.cell ((Gr.drew wx).trans hG) q7))
                          · intro a1 w1 hG hF
                            exact s_old rfl (wants0 rfl) (.tmp 14) (.inr rfl) (.int .u32 ((e).toNat : Int)) (hF.ol 14 (by kernel_rfl)) rfl
                          · intro a1 w1 hG hF
                            obtain ⟨_, e122, rfl⟩ := hF.dp 2 122 (by kernel_rfl)
                            exact s_call rfl (wants0 rfl) _ rfl _ _ (by simp only [execOp, resolve, invoke, List.map_toArray, List.map_cons, List.map_nil, e122]; go_simp) ((refRight_any e 6 (by omega) w1).mono fun e w2 ⟨he, hw⟩ => ⟨_, he, rfl, hw ▸ Gr.refl _⟩)
                          · intro a1 w1 hG hF
                            exact s_old rfl (wants0 rfl) (.tmp 14) (.inr rfl) (.int .u32 ((e).toNat : Int)) (hF.ol 14 (by kernel_rfl)) rfl
                          · intro a1 w1 hG hF
                            obtain ⟨_, e124, rfl⟩ := hF.dp 4 124 (by kernel_rfl)
                            exact s_call rfl (wants0 rfl) _ rfl _ _ (by simp only [execOp, resolve, invoke, List.map_toArray, List.map_cons, List.map_nil, e124]; go_simp) ((refRight_any e 11 (by omega) w1).mono fun e w2 ⟨he, hw⟩ => ⟨_, he, rfl, hw ▸ Gr.refl _⟩)
                          · intro a1 w1 hG hF
                            obtain ⟨_, e123, rfl⟩ := hF.dp 3 123 (by kernel_rfl)
                            obtain ⟨_, e125, rfl⟩ := hF.dp 5 125 (by kernel_rfl)
                            exact s_is rfl (wants0 rfl) _ rfl (run_xor32 (a := rr e 6) (b := rr e 11) e123 e125)
                          · intro a1 w1 hG hF
                            exact s_old rfl (wants0 rfl) (.tmp 14) (.inr rfl) (.int .u32 ((e).toNat : Int)) (hF.ol 14 (by kernel_rfl)) rfl
                          · intro a1 w1 hG hF
                            obtain ⟨_, e127, rfl⟩ := hF.dp 7 127 (by kernel_rfl)
                            exact s_call rfl (wants0 rfl) _ rfl _ _ (by simp only [execOp, resolve, invoke, List.map_toArray, List.map_cons, List.map_nil, e127]; go_simp) ((refRight_any e 25 (by omega) w1).mono fun e w2 ⟨he, hw⟩ => ⟨_, he, rfl, hw ▸ Gr.refl _⟩)
                          · intro a1 w1 hG hF
                            obtain ⟨_, e126, rfl⟩ := hF.dp 6 126 (by kernel_rfl)
                            obtain ⟨_, e128, rfl⟩ := hF.dp 8 128 (by kernel_rfl)
                            exact s_is rfl (wants0 rfl) _ rfl (run_xor32 (a := (rr e 6) ^^^ (rr e 11)) (b := rr e 25) e126 e128)
                          · intro a1 w1 hG hF
                            obtain ⟨_, e121, rfl⟩ := hF.dp 1 121 (by kernel_rfl)
                            obtain ⟨_, e129, rfl⟩ := hF.dp 9 129 (by kernel_rfl)
                            exact s_is rfl (wants0 rfl) _ rfl (run_add32 (a := i) (b := ((rr e 6) ^^^ (rr e 11)) ^^^ (rr e 25)) e121 e129)
                          · intro a1 w1 hG hF
                            exact s_old rfl (wants0 rfl) (.tmp 14) (.inr rfl) (.int .u32 ((e).toNat : Int)) (hF.ol 14 (by kernel_rfl)) rfl
                          · intro a1 w1 hG hF
                            have e12 : a1.eval (.tmp 12) = .pointer (some ⟨g12, 0, none⟩) := hF.ol 12 (by kernel_rfl)
                            exact s_is rfl (wants0 rfl) _ rfl (run_idx (i := 5) Tryd.underlying112 (by kernel_rfl) e12 rfl (by omega))
                          · intro a1 w1 hG hF
                            obtain ⟨_, e132, rfl⟩ := hF.dp 12 132 (by kernel_rfl)
                            exact s_is rfl (wants0 rfl) _ rfl (run_load1 Tryd.underlying83 e132 (Gr.cell ((Gr.drew wx).trans hG) q5))
                          · intro a1 w1 hG hF
                            obtain ⟨_, e131, rfl⟩ := hF.dp 11 131 (by kernel_rfl)
                            obtain ⟨_, e133, rfl⟩ := hF.dp 13 133 (by kernel_rfl)
                            exact s_is rfl (wants0 rfl) _ rfl (run_and32 (a := e) (b := f) e131 e133)
                          · intro a1 w1 hG hF
                            exact s_old rfl (wants0 rfl) (.tmp 14) (.inr rfl) (.int .u32 ((e).toNat : Int)) (hF.ol 14 (by kernel_rfl)) rfl
                          · intro a1 w1 hG hF
                            obtain ⟨_, e135, rfl⟩ := hF.dp 15 135 (by kernel_rfl)
                            exact s_is rfl (wants0 rfl) _ rfl (run_not32 e135)
                          · intro a1 w1 hG hF
                            have e12 : a1.eval (.tmp 12) = .pointer (some ⟨g12, 0, none⟩) := hF.ol 12 (by kernel_rfl)
                            exact s_is rfl (wants0 rfl) _ rfl (run_idx (i := 6) Tryd.underlying112 (by kernel_rfl) e12 rfl (by omega))
                          · intro a1 w1 hG hF
                            obtain ⟨_, e137, rfl⟩ := hF.dp 17 137 (by kernel_rfl)
                            exact s_is rfl (wants0 rfl) _ rfl (run_load1 Tryd.underlying83 e137 (Gr.cell ((Gr.drew wx).trans hG) q6))
                          · intro a1 w1 hG hF
                            obtain ⟨_, e136, rfl⟩ := hF.dp 16 136 (by kernel_rfl)
                            obtain ⟨_, e138, rfl⟩ := hF.dp 18 138 (by kernel_rfl)
                            exact s_is rfl (wants0 rfl) _ rfl (run_and32 (a := ~~~e) (b := g) e136 e138)
                          · intro a1 w1 hG hF
                            obtain ⟨_, e134, rfl⟩ := hF.dp 14 134 (by kernel_rfl)
                            obtain ⟨_, e139, rfl⟩ := hF.dp 19 139 (by kernel_rfl)
                            exact s_is rfl (wants0 rfl) _ rfl (run_xor32 (a := e &&& f) (b := (~~~e) &&& g) e134 e139)
                          · intro a1 w1 hG hF
                            obtain ⟨_, e130, rfl⟩ := hF.dp 10 130 (by kernel_rfl)
                            obtain ⟨_, e140, rfl⟩ := hF.dp 20 140 (by kernel_rfl)
                            exact s_is rfl (wants0 rfl) _ rfl (run_add32 (a := i + (((rr e 6) ^^^ (rr e 11)) ^^^ (rr e 25))) (b := (e &&& f) ^^^ ((~~~e) &&& g)) e130 e140)
                          · intro a1 w1 hG hF
                            exact s_old rfl (wants0 rfl) (.tmp 13) (.inr rfl) (.int .i64 ((r : Nat) : Int)) (hF.ol 13 (by kernel_rfl)) rfl
                          · intro a1 w1 hG hF
                            have e3 : a1.eval (.tmp 3) = .pointer (some ⟨g3, 0, none⟩) := hF.ol 3 (by kernel_rfl)
                            obtain ⟨_, e142, rfl⟩ := hF.dp 22 142 (by kernel_rfl)
                            exact s_is rfl (wants0 rfl) _ rfl (run_idx (i := r) Tryd.underlying130 (by kernel_rfl) e3 e142 (by omega))
                          · intro a1 w1 hG hF
                            obtain ⟨_, e143, rfl⟩ := hF.dp 23 143 (by kernel_rfl)
                            exact s_is rfl (wants0 rfl) _ rfl (run_load1 Tryd.underlying83 e143 (Gr.cell ((Gr.drew wx).trans hG) ck))
                          · intro a1 w1 hG hF
                            obtain ⟨_, e141, rfl⟩ := hF.dp 21 141 (by kernel_rfl)
                            obtain ⟨_, e144, rfl⟩ := hF.dp 24 144 (by kernel_rfl)
                            exact s_is rfl (wants0 rfl) _ rfl (run_add32 (a := (i + (((rr e 6) ^^^ (rr e 11)) ^^^ (rr e 25))) + ((e &&& f) ^^^ ((~~~e) &&& g))) (b := kk) e141 e144)
                          · intro a1 w1 hG hF
                            exact s_old rfl (wants0 rfl) (.tmp 13) (.inr rfl) (.int .i64 ((r : Nat) : Int)) (hF.ol 13 (by kernel_rfl)) rfl
                          · intro a1 w1 hG hF
                            have e7 : a1.eval (.tmp 7) = .pointer (some ⟨g7, 0, none⟩) := hF.ol 7 (by kernel_rfl)
                            obtain ⟨_, e146, rfl⟩ := hF.dp 26 146 (by kernel_rfl)
                            exact s_is rfl (wants0 rfl) _ rfl (run_idx (i := r) Tryd.underlying130 (by kernel_rfl) e7 e146 (by omega))
                          · intro a1 w1 hG hF
                            obtain ⟨_, e147, rfl⟩ := hF.dp 27 147 (by kernel_rfl)
                            exact s_is rfl (wants0 rfl) _ rfl (run_load1 Tryd.underlying83 e147 (Gr.cell ((Gr.drew wx).trans hG) cw))
                          · intro a1 w1 hG hF
                            obtain ⟨_, e145, rfl⟩ := hF.dp 25 145 (by kernel_rfl)
                            obtain ⟨_, e148, rfl⟩ := hF.dp 28 148 (by kernel_rfl)
                            exact s_is rfl (wants0 rfl) _ rfl (by rw [HX.out]; exact run_add32 (a := ((i + (((rr e 6) ^^^ (rr e 11)) ^^^ (rr e 25))) + ((e &&& f) ^^^ ((~~~e) &&& g))) + kk) (b := ww) e145 e148)
                          · intro a1 w1 hG hF
                            exact s_same rfl (wants0 rfl) (.tmp 149) (.inl rfl) (hF.dp 29 149 (by kernel_rfl))
                        · intro vs w1 hG hf
                          have z16 : vs 30 = .int .u32 ((x).toNat : Int) := hf.2.2.2.2.2.2.2.2.2.2.2.2.2.2.2.2.2.2.2.2.2.2.2.2.2.2.2.2.2.2.1
                          clear hf
                          simp only [putAll, Nat.zero_add, Nat.reduceAdd, z16]
                          replace hW := hW.gr ((Gr.drew wx).trans hG)
                          clear z16 q5 q6 q7 cw ck hG
                          have q1 := (hW.at_ 0 rfl).cell (i := 1) rfl
                          have q2 := (hW.at_ 0 rfl).cell (i := 2) rfl
                          generalize w1 = wy at hW q1 q2 ⊢
                          go_simp
                          go_wp2_with fail
                          refine wp_region_ssaL (by kernel_rfl) [IsV (.int .u32 ((a).toNat : Int)), IsV (.int .u32 ((rr a 2).toNat : Int)), IsV (.int .u32 ((a).toNat : Int)), IsV (.int .u32 ((rr a 13).toNat : Int)), IsV (.int .u32 (((rr a 2) ^^^ (rr a 13)).toNat : Int)), IsV (.int .u32 ((a).toNat : Int)), IsV (.int .u32 ((rr a 22).toNat : Int)), IsV (.int .u32 ((((rr a 2) ^^^ (rr a 13)) ^^^ (rr a 22)).toNat : Int)), IsV (.int .u32 ((a).toNat : Int)), IsV (.pointer (some ⟨g12, 1, none⟩)), IsV (.int .u32 ((b1).toNat : Int)), IsV (.int .u32 ((a &&& b1).toNat : Int)), IsV (.int .u32 ((a).toNat : Int)), IsV (.pointer (some ⟨g12, 2, none⟩)), IsV (.int .u32 ((c).toNat : Int)), IsV (.int .u32 ((a &&& c).toNat : Int)), IsV (.int .u32 (((a &&& b1) ^^^ (a &&& c)).toNat : Int)), IsV (.pointer (some ⟨g12, 1, none⟩)), IsV (.int .u32 ((b1).toNat : Int)), IsV (.pointer (some ⟨g12, 2, none⟩)), IsV (.int .u32 ((c).toNat : Int)), IsV (.int .u32 ((b1 &&& c).toNat : Int)), IsV (.int .u32 ((((a &&& b1) ^^^ (a &&& c)) ^^^ (b1 &&& c)).toNat : Int)), IsV (.int .u32 ((y).toNat : Int)), IsV (.int .u32 ((y).toNat : Int))] (by kernel_rfl) ?_ ?_ ?_
                          · intro φ hφ v w1 w2 h hg
                            simp only [List.mem_cons, List.not_mem_nil, or_false] at hφ
                            rcases hφ with rfl | rfl | rfl | rfl | rfl | rfl | rfl | rfl | rfl | rfl | rfl | rfl | rfl | rfl | rfl | rfl | rfl | rfl | rfl | rfl | rfl | rfl | rfl | rfl | rfl
                            all_goals first | exact h | exact RdV.gr h hg
                          · refine ⟨?_, ?_, ?_, ?_, ?_, ?_, ?_, ?_, ?_, ?_, ?_, ?_, ?_, ?_, ?_, ?_, ?_, ?_, ?_, ?_, ?_, ?_, ?_, ?_, ?_, trivial⟩
                            · intro a1 w1 hG hF
                              exact s_old rfl (wants0 rfl) (.tmp 15) (.inr rfl) (.int .u32 ((a).toNat : Int)) (hF.ol 15 (by kernel_rfl)) rfl
                            · intro a1 w1 hG hF
                              obtain ⟨_, e150, rfl⟩ := hF.dp 0 150 (by kernel_rfl)
                              exact s_call rfl (wants0 rfl) _ rfl _ _ (by simp only [execOp, resolve, invoke, List.map_toArray, List.map_cons, List.map_nil, e150]; go_simp) ((refRight_any a 2 (by omega) w1).mono fun e w2 ⟨he, hw⟩ => ⟨_, he, rfl, hw ▸ Gr.refl _⟩)
                            · intro a1 w1 hG hF
                              exact s_old rfl (wants0 rfl) (.tmp 15) (.inr rfl) (.int .u32 ((a).toNat : Int)) (hF.ol 15 (by kernel_rfl)) rfl
                            · intro a1 w1 hG hF
                              obtain ⟨_, e152, rfl⟩ := hF.dp 2 152 (by kernel_rfl)
                              exact s_call rfl (wants0 rfl) _ rfl _ _ (by simp only [execOp, resolve, invoke, List.map_toArray, List.map_cons, List.map_nil, e152]; go_simp) ((refRight_any a 13 (by omega) w1).mono fun e w2 ⟨he, hw⟩ => ⟨_, he, rfl, hw ▸ Gr.refl _⟩)
                            · intro a1 w1 hG hF
                              obtain ⟨_, e151, rfl⟩ := hF.dp 1 151 (by kernel_rfl)
                              obtain ⟨_, e153, rfl⟩ := hF.dp 3 153 (by kernel_rfl)
                              exact s_is rfl (wants0 rfl) _ rfl (run_xor32 (a := rr a 2) (b := rr a 13) e151 e153)
                            · intro a1 w1 hG hF
                              exact s_old rfl (wants0 rfl) (.tmp 15) (.inr rfl) (.int .u32 ((a).toNat : Int)) (hF.ol 15 (by kernel_rfl)) rfl
                            · intro a1 w1 hG hF
                              obtain ⟨_, e155, rfl⟩ := hF.dp 5 155 (by kernel_rfl)
                              exact s_call rfl (wants0 rfl) _ rfl _ _ (by simp only [execOp, resolve, invoke, List.map_toArray, List.map_cons, List.map_nil, e155]; go_simp) ((refRight_any a 22 (by omega) w1).mono fun e w2 ⟨he, hw⟩ => ⟨_, he, rfl, hw ▸ Gr.refl _⟩)
                            · intro a1 w1 hG hF
                              obtain ⟨_, e154, rfl⟩ := hF.dp 4 154 (by kernel_rfl)
                              obtain ⟨_, e156, rfl⟩ := hF.dp 6 156 (by kernel_rfl)
                              exact s_is rfl (wants0 rfl) _ rfl (run_xor32 (a := (rr a 2) ^^^ (rr a 13)) (b := rr a 22) e154 e156)
                            · intro a1 w1 hG hF
                              exact s_old rfl (wants0 rfl) (.tmp 15) (.inr rfl) (.int .u32 ((a).toNat : Int)) (hF.ol 15 (by kernel_rfl)) rfl
                            · intro a1 w1 hG hF
                              have e12 : a1.eval (.tmp 12) = .pointer (some ⟨g12, 0, none⟩) := hF.ol 12 (by kernel_rfl)
                              exact s_is rfl (wants0 rfl) _ rfl (run_idx (i := 1) Tryd.underlying112 (by kernel_rfl) e12 rfl (by omega))
                            · intro a1 w1 hG hF
                              obtain ⟨_, e159, rfl⟩ := hF.dp 9 159 (by kernel_rfl)
                              exact s_is rfl (wants0 rfl) _ rfl (run_load1 Tryd.underlying83 e159 (Gr.cell ((Gr.drew wy).trans hG) q1))
                            · intro a1 w1 hG hF
                              obtain ⟨_, e158, rfl⟩ := hF.dp 8 158 (by kernel_rfl)
                              obtain ⟨_, e160, rfl⟩ := hF.dp 10 160 (by kernel_rfl)
                              exact s_is rfl (wants0 rfl) _ rfl (run_and32 (a := a) (b := b1) e158 e160)
                            · intro a1 w1 hG hF
                              exact s_old rfl (wants0 rfl) (.tmp 15) (.inr rfl) (.int .u32 ((a).toNat : Int)) (hF.ol 15 (by kernel_rfl)) rfl
                            · intro a1 w1 hG hF
                              have e12 : a1.eval (.tmp 12) = .pointer (some ⟨g12, 0, none⟩) := hF.ol 12 (by kernel_rfl)
                              exact s_is rfl (wants0 rfl) _ rfl (run_idx (i := 2) Tryd.underlying112 (by kernel_rfl) e12 rfl (by omega))
                            · intro a1 w1 hG hF
                              obtain ⟨_, e163, rfl⟩ := hF.dp 13 163 (by kernel_rfl)
                              exact s_is rfl (wants0 rfl) _ rfl (run_load1 Tryd.underlying83 e163 (Gr.cell ((Gr.drew wy).trans hG) q2))
                            · intro a1 w1 hG hF
                              obtain ⟨_, e162, rfl⟩ := hF.dp 12 162 (by kernel_rfl)
                              obtain ⟨_, e164, rfl⟩ := hF.dp 14 164 (by kernel_rfl)
                              exact s_is rfl (wants0 rfl) _ rfl (run_and32 (a := a) (b := c) e162 e164)
                            · intro a1 w1 hG hF
                              obtain ⟨_, e161, rfl⟩ := hF.dp 11 161 (by kernel_rfl)
                              obtain ⟨_, e165, rfl⟩ := hF.dp 15 165 (by kernel_rfl)
                              exact s_is rfl (wants0 rfl) _ rfl (run_xor32 (a := a &&& b1) (b := a &&& c) e161 e165)
                            · intro a1 w1 hG hF
                              have e12 : a1.eval (.tmp 12) = .pointer (some ⟨g12, 0, none⟩) := hF.ol 12 (by kernel_rfl)
                              exact s_is rfl (wants0 rfl) _ rfl (run_idx (i := 1) Tryd.underlying112 (by kernel_rfl) e12 rfl (by omega))
                            · intro a1 w1 hG hF
                              obtain ⟨_, e167, rfl⟩ := hF.dp 17 167 (by kernel_rfl)
                              exact s_is rfl (wants0 rfl) _ rfl (run_load1 Tryd.underlying83 e167 (Gr.cell ((Gr.drew wy).trans hG) q1))
                            · intro a1 w1 hG hF
                              have e12 : a1.eval (.tmp 12) = .pointer (some ⟨g12, 0, none⟩) := hF.ol 12 (by kernel_rfl)
                              exact s_is rfl (wants0 rfl) _ rfl (run_idx (i := 2) Tryd.underlying112 (by kernel_rfl) e12 rfl (by omega))
                            · intro a1 w1 hG hF
                              obtain ⟨_, e169, rfl⟩ := hF.dp 19 169 (by kernel_rfl)
                              exact s_is rfl (wants0 rfl) _ rfl (run_load1 Tryd.underlying83 e169 (Gr.cell ((Gr.drew wy).trans hG) q2))
                            · intro a1 w1 hG hF
                              obtain ⟨_, e168, rfl⟩ := hF.dp 18 168 (by kernel_rfl)
                              obtain ⟨_, e170, rfl⟩ := hF.dp 20 170 (by kernel_rfl)
                              exact s_is rfl (wants0 rfl) _ rfl (run_and32 (a := b1) (b := c) e168 e170)
                            · intro a1 w1 hG hF
                              obtain ⟨_, e166, rfl⟩ := hF.dp 16 166 (by kernel_rfl)
                              obtain ⟨_, e171, rfl⟩ := hF.dp 21 171 (by kernel_rfl)
                              exact s_is rfl (wants0 rfl) _ rfl (run_xor32 (a := (a &&& b1) ^^^ (a &&& c)) (b := b1 &&& c) e166 e171)
                            · intro a1 w1 hG hF
                              obtain ⟨_, e157, rfl⟩ := hF.dp 7 157 (by kernel_rfl)
                              obtain ⟨_, e172, rfl⟩ := hF.dp 22 172 (by kernel_rfl)
                              exact s_is rfl (wants0 rfl) _ rfl (by rw [HY.out]; exact run_add32 (a := ((rr a 2) ^^^ (rr a 13)) ^^^ (rr a 22)) (b := ((a &&& b1) ^^^ (a &&& c)) ^^^ (b1 &&& c)) e157 e172)
                            · intro a1 w1 hG hF
                              exact s_same rfl (wants0 rfl) (.tmp 173) (.inl rfl) (hF.dp 23 173 (by kernel_rfl))
                          · intro vs w1 hG hf
                            have z17 : vs 24 = .int .u32 ((y).toNat : Int) := hf.2.2.2.2.2.2.2.2.2.2.2.2.2.2.2.2.2.2.2.2.2.2.2.2.1
                            clear hf
                            simp only [putAll, Nat.zero_add, Nat.reduceAdd, z17]
                            replace hW := hW.gr ((Gr.drew wy).trans hG)
                            clear z17 q1 q2 hG
                            generalize w1 = wz at hW ⊢
                            have p0 : wz.cell? ⟨g12, 0, none⟩ = some (.int .u32 (a.toNat : Int)) := (hW.at_ 0 rfl).cell (i := 0) rfl
                            have p1 : wz.cell? ⟨g12, 1, none⟩ = some (.int .u32 (b1.toNat : Int)) := (hW.at_ 0 rfl).cell (i := 1) rfl
                            have p2 : wz.cell? ⟨g12, 2, none⟩ = some (.int .u32 (c.toNat : Int)) := (hW.at_ 0 rfl).cell (i := 2) rfl
                            have p3 : wz.cell? ⟨g12, 3, none⟩ = some (.int .u32 (d.toNat : Int)) := (hW.at_ 0 rfl).cell (i := 3) rfl
                            have p4 : wz.cell? ⟨g12, 4, none⟩ = some (.int .u32 (e.toNat : Int)) := (hW.at_ 0 rfl).cell (i := 4) rfl
                            have p5 : wz.cell? ⟨g12, 5, none⟩ = some (.int .u32 (f.toNat : Int)) := (hW.at_ 0 rfl).cell (i := 5) rfl
                            have p6 : wz.cell? ⟨g12, 6, none⟩ = some (.int .u32 (g.toNat : Int)) := (hW.at_ 0 rfl).cell (i := 6) rfl
                            have HYV : Hid (Value.agg #[.int .u32 (((x.toNat : Int) + (y.toNat : Int)) % 4294967296), .int .u32 (a.toNat : Int), .int .u32 (b1.toNat : Int), .int .u32 (c.toNat : Int), .int .u32 (((d.toNat : Int) + (x.toNat : Int)) % 4294967296), .int .u32 (e.toNat : Int), .int .u32 (f.toNat : Int), .int .u32 (g.toNat : Int)] = .agg (u32s (V (r + 1))).toArray) := by
                              show _ = _
                              rw [HNX.out, add32_mod, add32_mod]
                              rfl
                            have hvl1 := HVL.out (r + 1)
                            go_simp
                            go_wp2_with (refine wpList_putW hW 0 rfl rfl 112 (.tmp 12) (.tmp 193) rfl (u32s (V (r + 1))) rfl HYV.out (by simp [hvl1]) (info8 _ hvl1) (u32s_oneCell _) ?_; intro wq hWq)
                            simp only [List.set] at hWq
                            clear p0 p1 p2 p3 p4 p5 p6 hW
                            go_simp
                            go_wp2_with fail
                            exact ⟨⟨r + 1, by omega, by go_num, hWq⟩, by simp [intOf]; omega⟩
                    · obtain rfl : r = 64 := by omega
                      have hEe := HVE.out 64 rfl
                      obtain ⟨v, hv⟩ : ∃ v, v = V 64 := ⟨_, rfl⟩
                      have hvl : v.length = 8 := by rw [hv]; exact HVL.out 64
                      rw [← hv] at hW hEe
                      obtain ⟨D, hD⟩ : ∃ D : Nat → List UInt32, D = addAt h0 v := ⟨_, rfl⟩
                      have HDL : Hid (∀ r, (D r).length = 8) := by intro r; rw [hD, addAt_length, hh0l]
                      have HDS : Hid (∀ r, (D r).set r ((D r).getD r 0 + v.getD r 0) = D (r + 1)) := by intro r; rw [hD]; rfl
                      have HDE : Hid (∀ r, r = 8 → H (j + 1) = D r) := by intro r hr; rw [hr, hEe, hD, addAt_all hh0l hvl]
                      have hD0 : u32s h0 = u32s (D 0) := by rw [hD]; rfl
                      rw [hD0] at hW
                      clear hv hEe hD hD0 HVE HVS HVL hlt hr64
                      simp only [show ((64 : Nat) : Int) = 64 from rfl]
                      go_wp2_with fail
                      go_simp
                      go_loopw [18] (fun i wr => ∃ r : Nat, r ≤ 8 ∧ i = .int .i64 r ∧ MemW [g4, g3] w7 wr [(g12, 112, u32s v), (g7, 130, u32s S), (g4, 112, u32s (D r)), (g3, 130, u32s ks)]) (fun i _ => 8 - (intOf i).toNat)
                      case atStart => exact ⟨0, by omega, rfl, hW⟩
                      case round =>
                        clear hW
                        obtain ⟨r, hr8, rfl, hW⟩ := hrel
                        by_cases hlt : r < 8
                        · obtain ⟨hx, hhx⟩ : ∃ x, x = (D r).getD r 0 := ⟨_, rfl⟩
                          obtain ⟨vx, hvx⟩ : ∃ x, x = v.getD r 0 := ⟨_, rfl⟩
                          have c2 := (hW.at_ 2 rfl).u32 (a := r) (by rw [HDL.out]; omega)
                          have c6 := (hW.at_ 0 rfl).u32 (a := r) (by omega)
                          rw [← hhx] at c2
                          rw [← hvx] at c6
                          have hDs := HDS.out r
                          rw [← hhx, ← hvx] at hDs
                          have HDs := Lib.hid hDs
                          clear hhx hvx hDs
                          go_wp2_with fail
                          refine wp_region_st (by kernel_rfl) [IsV (.int .i64 ((r : Nat) : Int)), IsV (.int .i64 ((r : Nat) : Int)), IsV (.pointer (some ⟨g4, r, none⟩)), IsV (.int .u32 ((hx).toNat : Int)), IsV (.int .i64 ((r : Nat) : Int)), IsV (.pointer (some ⟨g12, r, none⟩)), IsV (.int .u32 ((vx).toNat : Int)), IsV (.int .u32 ((hx + vx).toNat : Int)), IsV (.pointer (some ⟨g4, r, none⟩))] 9 _ rfl rfl rfl (by kernel_rfl) (by kernel_rfl) ?_ (⟨g4, r, none⟩ : Addr) (.int .u32 ((hx + vx).toNat : Int)) ?_ ?_ ?_
                          · intro φ hφ
                            simp only [List.mem_cons, List.not_mem_nil, or_false] at hφ
                            rcases hφ with rfl | rfl | rfl | rfl | rfl | rfl | rfl | rfl | rfl <;> exact ⟨_, rfl⟩
                          · refine ⟨?_, ?_, ?_, ?_, ?_, ?_, ?_, ?_, ?_, trivial⟩
                            · intro a1 w1 hG hF
                              exact d_old rfl (wants0 rfl) (.tmp 18) (.inr rfl) (.int .i64 ((r : Nat) : Int)) (hF.ol 18 (by kernel_rfl)) rfl
                            · intro a1 w1 hG hF
                              exact d_old rfl (wants0 rfl) (.tmp 18) (.inr rfl) (.int .i64 ((r : Nat) : Int)) (hF.ol 18 (by kernel_rfl)) rfl
                            · intro a1 w1 hG hF
                              have e4 : a1.eval (.tmp 4) = .pointer (some ⟨g4, 0, none⟩) := hF.ol 4 (by kernel_rfl)
                              obtain ⟨_, e199, rfl⟩ := hF.dp 1 199 (by kernel_rfl)
                              exact d_is rfl (wants0 rfl) _ rfl (run_idx (i := r) Tryd.underlying112 (by kernel_rfl) e4 e199 (by omega))
                            · intro a1 w1 hG hF
                              obtain ⟨_, e200, rfl⟩ := hF.dp 2 200 (by kernel_rfl)
                              exact d_is rfl (wants0 rfl) _ rfl (run_load1 Tryd.underlying83 e200 ((hG.cell _).trans c2))
                            · intro a1 w1 hG hF
                              exact d_old rfl (wants0 rfl) (.tmp 18) (.inr rfl) (.int .i64 ((r : Nat) : Int)) (hF.ol 18 (by kernel_rfl)) rfl
                            · intro a1 w1 hG hF
                              have e12 : a1.eval (.tmp 12) = .pointer (some ⟨g12, 0, none⟩) := hF.ol 12 (by kernel_rfl)
                              obtain ⟨_, e202, rfl⟩ := hF.dp 4 202 (by kernel_rfl)
                              exact d_is rfl (wants0 rfl) _ rfl (run_idx (i := r) Tryd.underlying112 (by kernel_rfl) e12 e202 (by omega))
                            · intro a1 w1 hG hF
                              obtain ⟨_, e203, rfl⟩ := hF.dp 5 203 (by kernel_rfl)
                              exact d_is rfl (wants0 rfl) _ rfl (run_load1 Tryd.underlying83 e203 ((hG.cell _).trans c6))
                            · intro a1 w1 hG hF
                              obtain ⟨_, e201, rfl⟩ := hF.dp 3 201 (by kernel_rfl)
                              obtain ⟨_, e204, rfl⟩ := hF.dp 6 204 (by kernel_rfl)
                              exact d_is rfl (wants0 rfl) _ rfl (run_add32 (a := hx) (b := vx) e201 e204)
                            · intro a1 w1 hG hF
                              have e4 : a1.eval (.tmp 4) = .pointer (some ⟨g4, 0, none⟩) := hF.ol 4 (by kernel_rfl)
                              obtain ⟨_, e198, rfl⟩ := hF.dp 0 198 (by kernel_rfl)
                              exact d_is rfl (wants0 rfl) _ rfl (run_idx (i := r) Tryd.underlying112 (by kernel_rfl) e4 e198 (by omega))
                          · intro a1 w1 hG hF
                            obtain ⟨_, e206, rfl⟩ := hF.dp 8 206 (by kernel_rfl)
                            obtain ⟨_, e205, rfl⟩ := hF.dp 7 205 (by kernel_rfl)
                            exact ⟨wants0 rfl, run_store1 (by kernel_rfl) e206 e205 (by rw [hG.cell]; exact (Option.isSome_iff_exists.2 ⟨_, c2⟩)) (by rw [hG.frozen]; exact (hW.at_ 2 rfl).frozen _)⟩
                          intro vs k0 hf
                          clear hf
                          simp only [putAll, Nat.zero_add, Nat.reduceAdd]
                          have hW' := (hW.dr ⟨k0, rfl⟩).set 2 rfl r (.int .u32 ((hx + vx).toNat : Int))
                          rw [u32s_set, HDs.out] at hW'
                          simp only [List.set] at hW'
                          generalize ((World.drewN _ k0).setCell _ _) = W1 at hW' ⊢
                          clear hW c2 c6
                          go_simp
                          go_wp2_with fail
                          go_roundw
                          case rel => exact ⟨r + 1, by omega, by go_num, hW'⟩
                          case measure => simp [intOf]; omega
                        · obtain rfl : r = 8 := by omega
                          rw [← HDE.out 8 rfl] at hW
                          have HO2 := HO.out
                          simp only [show ((8 : Nat) : Int) = 8 from rfl]
                          go_wp2_with fail
                          go_simp
                          exact ⟨⟨j + 1, by omega, by first | (congr 1; done) | (congr 1; omega), hW.drop1.drop1⟩, by simp [intOf]; omega⟩
        · have hjN : j = N := by omega
          have hoN : ¬ o < 64 * N := by omega
          obtain ⟨X, hX⟩ : ∃ X, X = H j := ⟨_, rfl⟩
          have hXl : X.length = 8 := by rw [hX]; exact HHL.out j
          have hXe : shaL l = outS X := by rw [hX]; exact HHE.out j hjN
          rw [← hX] at hW
          have hGw : Gr w w7 := hG3.trans hG7
          obtain ⟨Y, hY⟩ : ∃ Y : Nat → ByteArray, Y = fun r => ⟨(outS (X.take r)).toArray⟩ := ⟨_, rfl⟩
          have HY0 : Hid (∀ r, r = 0 → Y r = ⟨#[]⟩) := by intro r hr; rw [hY, hr]; rfl
          have HY8 : Hid (∀ r, r = 8 → Y r = ⟨(shaL l).toArray⟩) := by intro r hr; rw [hr, hY, hXe]; simp only []; rw [List.take_of_length_le (by omega)]
          have HYS : Hid (∀ r x, X[r]? = some x → Y (r + 1) = Y r ++ ⟨(leBytes 4 x.toNat).reverse.toArray⟩) := by
            intro r x hx
            rw [hY]
            simp only [outS]
            rw [take_snoc_ X r x hx, List.flatMap_append, str_append]
            simp
          have HYL : Hid (∀ r, (Y r).size ≤ 32) := by
            intro r
            rw [hY]
            show (outS (X.take r)).length ≤ 32
            rw [outS_length, List.length_take]
            omega
          obtain ⟨w9, hw9⟩ : ∃ w9, w9 = wr := ⟨_, rfl⟩
          subst hw9
          have hBw : Below w.heap.size w w9 := by
            have h1 := hM3lt
            have h2 := hW.below (B := w.heap.size) (by simp; omega) hGw.size
            exact Below.trans hGw h2
          have e0 := (HY0.out 0 rfl).symm
          clear hX hXe hY hjN HHS HHE HHL HY0 hlt ho hj hGw
          go_wp2_with fail
          rw [e0]
          clear e0
          go_simp
          go_loopw [19, 20] (fun v i wr => ∃ r : Nat, r ≤ 8 ∧ i = .int .i64 r ∧ v = .string (Y r) ∧ Gr w9 wr) (fun _ i _ => 8 - (intOf i).toNat)
          case atStart => exact ⟨0, by omega, rfl, rfl, Gr.refl _⟩
          case round =>
            obtain ⟨r, hr8, rfl, rfl, hG9⟩ := hrel
            by_cases hlt : r < 8
            · obtain ⟨x, hx⟩ : ∃ x, X[r]? = some x := ⟨_, List.getElem?_eq_getElem (by omega)⟩
              have c4 := ((hW.at_ 0 rfl).gr hG9).cell (i := r) (u32s_at hx)
              have hYs := HYS.out r x hx
              have hxl := x.toNat_lt
              have hput := fun w => refPut_any x.toNat (by omega) 4 true w
              rw [show (min (4 : Int) 64).toNat = 4 from rfl, show putL true 4 x.toNat = (leBytes 4 x.toNat).reverse from rfl] at hput
              obtain ⟨ub, hub⟩ : ∃ u : ByteArray, u = ⟨(leBytes 4 x.toNat).reverse.toArray⟩ := ⟨_, rfl⟩
              have hus : ub.size ≤ 4 := by rw [hub]; show (leBytes 4 x.toNat).reverse.length ≤ 4; simp
              rw [← hub] at hput hYs
              obtain ⟨yb, hyb⟩ : ∃ y, y = Y r := ⟨_, rfl⟩
              have hyl : yb.size ≤ 32 := by rw [hyb]; exact HYL.out r
              rw [← hyb] at hYs ⊢
              have HYs := Lib.hid hYs
              have HPUT := Lib.hid hput
              clear hx hYs hput hub hyb
              go_wp2_with (go_at_call 57; refine (HPUT.out _).mono ?_; rintro e wp ⟨rfl, hBp⟩)
              have hG10 := hG9.trans hBp
              have HG10 := Lib.hid hG10
              clear hG10 hBp c4
              exact ⟨⟨r + 1, by omega, by go_num, by rw [HYs.out], HG10.out⟩, by simp [intOf]; omega⟩
            · obtain rfl : r = 8 := by omega
              have h8 := HY8.out 8 rfl
              rw [h8]
              clear h8
              go_wp2_with fail
              go_ret
              exact ⟨rfl, hBw.trans (hG9.mono hBw.size)⟩
end Go.Proofs.YtnmhfomnlnlflaaDoor
/- The walk of the reference's digest with a key. No condition. -/
namespace Go.Proofs.YtnmhfomnlnlflaaDoor
open Go.RowKit
theorem padL_at {K : List UInt8} {x : UInt8} {k : Nat} {c : UInt8} (hk : k < 64) (h1 : k < (keyL K).length → (keyL K)[k]? = some c) (h2 : ¬ k < (keyL K).length → c = 0) : (padL K x)[k]? = some (c ^^^ x) := by
  rw [padL, List.getElem?_map]
  by_cases h : k < (keyL K).length
  · rw [List.getElem?_append_left h, h1 h]; rfl
  · have := keyL_le K
    rw [List.getElem?_append_right (by omega), List.getElem?_replicate, if_pos (by omega), h2 h]; rfl
/-- Two rows that share no block. -/
def Apart (v u : Value) : Prop := (v.ownBlock = none ∨ v.ownBlock ≠ u.ownBlock) ∧ (u.ownBlock = none ∨ u.ownBlock ≠ v.ownBlock)
theorem Apart.symm {v u : Value} (h : Apart v u) : Apart u v := ⟨h.2, h.1⟩
theorem apart_1 {base : Nat} {e : TypeId} {w w2 : World} {v v' u : Value} {n m : Nat} {xs ys : List Value} (h : Apart v u) (hA : Apped base e w w2 v v' n xs) (ho : w.ownsRow base e 1 u m ys) : Apart v' u := by
  rcases hA.lies with e1 | ⟨g, e1, hg⟩
  · unfold Apart; rw [e1]; exact h
  · unfold Apart
    rw [e1]
    refine ⟨.inr fun h => ?_, .inr fun h => ?_⟩
    · have := (ho.lt g h.symm).2; omega
    · have := (ho.lt g h).2; omega
set_option maxRecDepth 100000 in
set_option maxHeartbeats 4000000 in
theorem refHmac_any (K l : List UInt8) (hK : K.length ≤ 1000000) (hl : l.length ≤ 900000) (w : World) :
    Calls Tryd.prog 55 #[.string ⟨K.toArray⟩, .string ⟨l.toArray⟩] w fun e w' => e = .returned (.string ⟨(hmacL K l).toArray⟩) ∧ Below w.heap.size w w' := by
  obtain ⟨i0, hi0, hz0, hz1, hz2⟩ := info_parts Tryd.info5
  have hkl := keyL_le K
  obtain ⟨t, ht⟩ : ∃ t : ByteArray, t = ⟨K.toArray⟩ := ⟨_, rfl⟩
  obtain ⟨s, hs⟩ : ∃ s : ByteArray, s = ⟨(keyL K).toArray⟩ := ⟨_, rfl⟩
  have htl : t.size = K.length := by rw [ht]; rfl
  have hsl : s.size = (keyL K).length := by rw [hs]; rfl
  have hS1 : 64 < K.length → ∀ w, Calls Tryd.prog 76 #[.string t] w fun e w' => e = .returned (.string s) ∧ Below w.heap.size w w' := by
    intro h w
    rw [ht, hs, show keyL K = shaL K by rw [keyL, if_pos h]]
    exact refSum_any K hK w
  have hS2 : ¬ 64 < K.length → t = s := by
    intro h
    rw [ht, hs, keyL, if_neg h]
  have hP : Hid (∀ k c x, k < 64 → (∀ h : k < s.size, s[k] = c) → (¬ k < s.size → c = 0) → u8s ((padL K x).take (k + 1)) = u8s ((padL K x).take k) ++ [.int .u8 ((c ^^^ x).toNat : Int)]) := by
    intro k c x hk h1 h2
    have e1 : (padL K x)[k]? = some (c ^^^ x) := padL_at hk (fun h => by rw [← h1 (by omega)]; exact str_at hs (by omega)) (fun h => h2 (by omega))
    rw [take_snoc_ _ k _ e1, u8s_append, u8s_one]
  rw [← ht]
  have hS3 : Hid (∀ w, Calls Tryd.prog 76 #[.string ⟨(padL K 0x36 ++ l).toArray⟩] w fun e w' => e = .returned (.string ⟨(shaL (padL K 0x36 ++ l)).toArray⟩) ∧ Below w.heap.size w w') := fun w => refSum_any _ (by simp; omega) w
  have hS4 : Hid (∀ w, Calls Tryd.prog 76 #[.string ⟨(padL K 0x5C ++ shaL (padL K 0x36 ++ l)).toArray⟩] w fun e w' => e = .returned (.string ⟨(hmacL K l).toArray⟩) ∧ Below w.heap.size w w') := fun w => refSum_any _ (by simp) w
  have hsz : s.size ≤ 64 := by omega
  have htz : t.size ≤ 1000000 := by omega
  go_enter Tryd.func55, Tryd.ntmps55
  by_cases h64 : 64 < t.size
  · have hS := hS1 (by omega)
    have HT := Lib.hid htl
    have HS := Lib.hid hsl
    clear htl hsl ht hs hS1 hS2 hkl hK
    go_wp2_with (go_at_call 76; refine (hS _).mono ?_; rintro e w1 ⟨rfl, hB⟩)
    go_simp
    go_loopw [5, 6, 7] (fun vi vo i wr => ∃ k : Nat, k ≤ 64 ∧ i = .int .i64 k ∧ wr.ownsRow w.heap.size 5 1 vi k (u8s ((padL K 0x36).take k)) ∧ wr.ownsRow w.heap.size 5 1 vo k (u8s ((padL K 0x5C).take k)) ∧ Apart vi vo ∧ Below w.heap.size w wr) (fun _ _ i _ => 64 - (intOf i).toNat)
    case atStart => exact ⟨0, by omega, rfl, World.ownsRow_nil _ _ _ _, World.ownsRow_nil _ _ _ _, ⟨.inl rfl, .inl rfl⟩, hB⟩
    case round =>
      clear hB
      obtain ⟨k, hk, rfl, hoI, hoO, hap, hB⟩ := hrel
      have hbs := hB.size
      by_cases hlt : k < 64
      · by_cases hls : k < s.size
        · obtain ⟨x, hx⟩ : ∃ x, s[k] = x := ⟨_, rfl⟩
          have HX1 := Lib.hid (hP.out k x 0x36 hlt (fun _ => hx) (fun h => absurd hls h))
          have HX2 := Lib.hid (hP.out k x 0x5C hlt (fun _ => hx) (fun h => absurd hls h))
          have hxb := x.toNat_lt
          have ex1 : bits .xor .u8 (x.toNat : Int) 54 = ((x ^^^ 0x36).toNat : Int) := by
            have := u8_xor_nat x.toNat 54 hxb (by omega)
            rw [UInt8.toNat_xor]; exact this
          have ex2 : bits .xor .u8 (x.toNat : Int) 92 = ((x ^^^ 0x5C).toNat : Int) := by
            have := u8_xor_nat x.toNat 92 hxb (by omega)
            rw [UInt8.toNat_xor]; exact this
          go_upto_region 10 with fail
          have mk1 : (5 : Nat) < 6 := by omega
          go_wp2_with first
            | (at_builtin; clear mk1; go_must (refine wpList_app1 wr rfl (.tmp 25) (.tmp 28) 27 rfl w.heap.size 5 i0 (.int .u8 0) 1 Tryd.underlying27 hi0 hz0 hz1 hz2 rfl u5 k _ rfl hoI (.int .u8 ((x.toNat ^^^ 54 : Nat) : Int)) (.int .u8 ((x ^^^ 0x36).toNat : Int)) rfl (by rw [UInt8.toNat_xor] <;> rfl) rfl (by omega) (by unfold maxLen; omega) hbs ?_); intro v1 w2 hA1; have hoO2 := hoO.kept hA1.grown hap.2; have hap2 := apart_1 hap hA1 hoO; have hB2 := hB.trans (hA1.below hoI hbs); have hbs2 := hB2.size; clear hap hoO hB)
            | (at_builtin; go_must (refine wpList_app1 w2 rfl (.tmp 30) (.tmp 33) 27 rfl w.heap.size 5 i0 (.int .u8 0) 1 Tryd.underlying27 hi0 hz0 hz1 hz2 rfl u6 k _ rfl hoO2 (.int .u8 ((x.toNat ^^^ 92 : Nat) : Int)) (.int .u8 ((x ^^^ 0x5C).toNat : Int)) rfl (by rw [UInt8.toNat_xor] <;> rfl) rfl (by omega) (by unfold maxLen; omega) hbs2 ?_); intro v2 w3 hA2)
          have hoI3 := hA1.own.kept hA2.grown hap2.1
          have hap3 := apart_1 hap2.symm hA2 hA1.own
          have hB3 := hB2.trans (hA2.below hoO2 hbs2)
          have hoO3 := hA2.own
          rw [← HX1.out] at hoI3
          rw [← HX2.out] at hoO3
          clear hA1 hA2 hoI hoO2 hap2 hB2
          go_simp
          go_wp2_with fail
          exact ⟨⟨k + 1, by omega, by go_num, hoI3, hoO3, hap3.symm⟩, by simp [intOf]; omega⟩
        · have HX1 := Lib.hid (hP.out k 0 0x36 hlt (fun h => absurd h hls) (fun _ => rfl))
          have HX2 := Lib.hid (hP.out k 0 0x5C hlt (fun h => absurd h hls) (fun _ => rfl))
          obtain ⟨x, hx⟩ : ∃ x : UInt8, x = 0 := ⟨_, rfl⟩
          rw [← hx] at HX1 HX2
          have HX0 := Lib.hid hx
          clear hx
          go_upto_region 10 with fail
          have mk1 : (5 : Nat) < 6 := by omega
          go_wp2_with first
            | (at_builtin; clear mk1; go_must (refine wpList_app1 wr rfl (.tmp 25) (.tmp 28) 27 rfl w.heap.size 5 i0 (.int .u8 0) 1 Tryd.underlying27 hi0 hz0 hz1 hz2 rfl u5 k _ rfl hoI (.int .u8 (bits .xor .u8 0 54)) (.int .u8 ((x ^^^ 0x36).toNat : Int)) rfl (by rw [HX0.out] <;> rfl) rfl (by omega) (by unfold maxLen; omega) hbs ?_); intro v1 w2 hA1; have hoO2 := hoO.kept hA1.grown hap.2; have hap2 := apart_1 hap hA1 hoO; have hB2 := hB.trans (hA1.below hoI hbs); have hbs2 := hB2.size; clear hap hoO hB)
            | (at_builtin; go_must (refine wpList_app1 w2 rfl (.tmp 30) (.tmp 33) 27 rfl w.heap.size 5 i0 (.int .u8 0) 1 Tryd.underlying27 hi0 hz0 hz1 hz2 rfl u6 k _ rfl hoO2 (.int .u8 (bits .xor .u8 0 92)) (.int .u8 ((x ^^^ 0x5C).toNat : Int)) rfl (by rw [HX0.out] <;> rfl) rfl (by omega) (by unfold maxLen; omega) hbs2 ?_); intro v2 w3 hA2)
          have hoI3 := hA1.own.kept hA2.grown hap2.1
          have hap3 := apart_1 hap2.symm hA2 hA1.own
          have hB3 := hB2.trans (hA2.below hoO2 hbs2)
          have hoO3 := hA2.own
          rw [← HX1.out] at hoI3
          rw [← HX2.out] at hoO3
          clear hA1 hA2 hoI hoO2 hap2 hB2
          go_simp
          go_wp2_with fail
          exact ⟨⟨k + 1, by omega, by go_num, hoI3, hoO3, hap3.symm⟩, by simp [intOf]; omega⟩
      · obtain rfl : k = 64 := by omega
        obtain ⟨AI, cI, rfl, hcI, _⟩ := own_form hoI
        obtain ⟨AO, cO, rfl, hcO, _⟩ := own_form hoO
        have hrI := Rd.of_own hoI
        have hrO := Rd.of_own hoO
        rw [List.take_of_length_le (by simp)] at hrI hrO
        simp only [show ((64 : Nat) : Int) = 64 from rfl]
        clear hoI hoO hap hP
        go_wp2_with fail
        refine wp_region_ssaL (by kernel_rfl) [IsV (.slice AO 64 cO), IsV (.string ⟨(padL K 92).toArray⟩), IsV (.slice AI 64 cI), IsV (.string ⟨(padL K 54).toArray⟩), IsV (.string ⟨(l).toArray⟩), IsV (.string ⟨(padL K 54 ++ l).toArray⟩), IsV (.string ⟨(shaL (padL K 54 ++ l)).toArray⟩), IsV (.string ⟨(padL K 92 ++ shaL (padL K 54 ++ l)).toArray⟩), IsV (.string ⟨(hmacL K l).toArray⟩), IsV (.string ⟨(hmacL K l).toArray⟩)] (by kernel_rfl) ?_ ?_ ?_
        · intro φ hφ v w1 w2 h hg
          simp only [List.mem_cons, List.not_mem_nil, or_false] at hφ
          rcases hφ with rfl | rfl | rfl | rfl | rfl | rfl | rfl | rfl | rfl | rfl
          all_goals first | exact h | exact RdV.gr h hg
        · refine ⟨?_, ?_, ?_, ?_, ?_, ?_, ?_, ?_, ?_, ?_, trivial⟩
          · intro a1 w1 hG hF
            exact s_old rfl (wants0 rfl) (.tmp 6) (.inr rfl) (.slice AO 64 cO) (hF.ol 6 (by kernel_rfl)) rfl
          · intro a1 w1 hG hF
            obtain ⟨_, e35, rfl⟩ := hF.dp 0 35 (by kernel_rfl)
            exact s_str rfl (wants0 rfl) 27 9 5 (.tmp 35) rfl Tryd.underlying27 Tryd.underlying5 Tryd.underlying9 _ _ _ (padL K 92) e35 (((Gr.drew wr).trans hG).rd hrO) rfl
          · intro a1 w1 hG hF
            exact s_old rfl (wants0 rfl) (.tmp 5) (.inr rfl) (.slice AI 64 cI) (hF.ol 5 (by kernel_rfl)) rfl
          · intro a1 w1 hG hF
            obtain ⟨_, e37, rfl⟩ := hF.dp 2 37 (by kernel_rfl)
            exact s_str rfl (wants0 rfl) 27 9 5 (.tmp 37) rfl Tryd.underlying27 Tryd.underlying5 Tryd.underlying9 _ _ _ (padL K 54) e37 (((Gr.drew wr).trans hG).rd hrI) rfl
          · intro a1 w1 hG hF
            exact s_old rfl (wants0 rfl) (.tmp 1) (.inr rfl) (.string ⟨(l).toArray⟩) (hF.ol 1 (by kernel_rfl)) rfl
          · intro a1 w1 hG hF
            obtain ⟨_, e38, rfl⟩ := hF.dp 3 38 (by kernel_rfl)
            obtain ⟨_, e39, rfl⟩ := hF.dp 4 39 (by kernel_rfl)
            exact s_is rfl (wants0 rfl) _ rfl (run_addS (by simp; omega) e38 e39)
          · intro a1 w1 hG hF
            obtain ⟨_, e40, rfl⟩ := hF.dp 5 40 (by kernel_rfl)
            exact s_call rfl (wants0 rfl) _ rfl _ _ (by simp only [execOp, resolve, invoke, List.map_toArray, List.map_cons, List.map_nil, e40]; go_simp) ((hS3.out w1).mono fun e w2 ⟨he, hb⟩ => ⟨_, he, rfl, hb⟩)
          · intro a1 w1 hG hF
            obtain ⟨_, e36, rfl⟩ := hF.dp 1 36 (by kernel_rfl)
            obtain ⟨_, e41, rfl⟩ := hF.dp 6 41 (by kernel_rfl)
            exact s_is rfl (wants0 rfl) _ rfl (run_addS (by simp) e36 e41)
          · intro a1 w1 hG hF
            obtain ⟨_, e42, rfl⟩ := hF.dp 7 42 (by kernel_rfl)
            exact s_call rfl (wants0 rfl) _ rfl _ _ (by simp only [execOp, resolve, invoke, List.map_toArray, List.map_cons, List.map_nil, e42]; go_simp) ((hS4.out w1).mono fun e w2 ⟨he, hb⟩ => ⟨_, he, rfl, hb⟩)
          · intro a1 w1 hG hF
            exact s_same rfl (wants0 rfl) (.tmp 43) (.inl rfl) (hF.dp 8 43 (by kernel_rfl))
        · intro vs w1 hG hf
          have z4 : vs 9 = .string ⟨(hmacL K l).toArray⟩ := hf.2.2.2.2.2.2.2.2.2.1
          clear hf
          simp only [putAll, Nat.zero_add, Nat.reduceAdd, z4]
          go_simp
          go_wp2_with fail
          go_ret
          exact ⟨rfl, hB.trans (((Gr.drew wr).trans hG).mono hB.size)⟩
  · have hst := (hS2 (by omega)).symm
    subst hst
    have HT := Lib.hid htl
    have HS := Lib.hid hsl
    have hB := Below.refl w.heap.size w
    clear htl hsl ht hs hS1 hS2 hkl hK
    go_wp2_with fail
    go_simp
    go_loopw [5, 6, 7] (fun vi vo i wr => ∃ k : Nat, k ≤ 64 ∧ i = .int .i64 k ∧ wr.ownsRow w.heap.size 5 1 vi k (u8s ((padL K 0x36).take k)) ∧ wr.ownsRow w.heap.size 5 1 vo k (u8s ((padL K 0x5C).take k)) ∧ Apart vi vo ∧ Below w.heap.size w wr) (fun _ _ i _ => 64 - (intOf i).toNat)
    case atStart => exact ⟨0, by omega, rfl, World.ownsRow_nil _ _ _ _, World.ownsRow_nil _ _ _ _, ⟨.inl rfl, .inl rfl⟩, hB⟩
    case round =>
      clear hB
      obtain ⟨k, hk, rfl, hoI, hoO, hap, hB⟩ := hrel
      have hbs := hB.size
      by_cases hlt : k < 64
      · by_cases hls : k < s.size
        · obtain ⟨x, hx⟩ : ∃ x, s[k] = x := ⟨_, rfl⟩
          have HX1 := Lib.hid (hP.out k x 0x36 hlt (fun _ => hx) (fun h => absurd hls h))
          have HX2 := Lib.hid (hP.out k x 0x5C hlt (fun _ => hx) (fun h => absurd hls h))
          have hxb := x.toNat_lt
          have ex1 : bits .xor .u8 (x.toNat : Int) 54 = ((x ^^^ 0x36).toNat : Int) := by
            have := u8_xor_nat x.toNat 54 hxb (by omega)
            rw [UInt8.toNat_xor]; exact this
          have ex2 : bits .xor .u8 (x.toNat : Int) 92 = ((x ^^^ 0x5C).toNat : Int) := by
            have := u8_xor_nat x.toNat 92 hxb (by omega)
            rw [UInt8.toNat_xor]; exact this
          go_upto_region 10 with fail
          have mk1 : (5 : Nat) < 6 := by omega
          go_wp2_with first
            | (at_builtin; clear mk1; go_must (refine wpList_app1 wr rfl (.tmp 25) (.tmp 28) 27 rfl w.heap.size 5 i0 (.int .u8 0) 1 Tryd.underlying27 hi0 hz0 hz1 hz2 rfl u5 k _ rfl hoI (.int .u8 ((x.toNat ^^^ 54 : Nat) : Int)) (.int .u8 ((x ^^^ 0x36).toNat : Int)) rfl (by rw [UInt8.toNat_xor] <;> rfl) rfl (by omega) (by unfold maxLen; omega) hbs ?_); intro v1 w2 hA1; have hoO2 := hoO.kept hA1.grown hap.2; have hap2 := apart_1 hap hA1 hoO; have hB2 := hB.trans (hA1.below hoI hbs); have hbs2 := hB2.size; clear hap hoO hB)
            | (at_builtin; go_must (refine wpList_app1 w2 rfl (.tmp 30) (.tmp 33) 27 rfl w.heap.size 5 i0 (.int .u8 0) 1 Tryd.underlying27 hi0 hz0 hz1 hz2 rfl u6 k _ rfl hoO2 (.int .u8 ((x.toNat ^^^ 92 : Nat) : Int)) (.int .u8 ((x ^^^ 0x5C).toNat : Int)) rfl (by rw [UInt8.toNat_xor] <;> rfl) rfl (by omega) (by unfold maxLen; omega) hbs2 ?_); intro v2 w3 hA2)
          have hoI3 := hA1.own.kept hA2.grown hap2.1
          have hap3 := apart_1 hap2.symm hA2 hA1.own
          have hB3 := hB2.trans (hA2.below hoO2 hbs2)
          have hoO3 := hA2.own
          rw [← HX1.out] at hoI3
          rw [← HX2.out] at hoO3
          clear hA1 hA2 hoI hoO2 hap2 hB2
          go_simp
          go_wp2_with fail
          exact ⟨⟨k + 1, by omega, by go_num, hoI3, hoO3, hap3.symm⟩, by simp [intOf]; omega⟩
        · have HX1 := Lib.hid (hP.out k 0 0x36 hlt (fun h => absurd h hls) (fun _ => rfl))
          have HX2 := Lib.hid (hP.out k 0 0x5C hlt (fun h => absurd h hls) (fun _ => rfl))
          obtain ⟨x, hx⟩ : ∃ x : UInt8, x = 0 := ⟨_, rfl⟩
          rw [← hx] at HX1 HX2
          have HX0 := Lib.hid hx
          clear hx
          go_upto_region 10 with fail
          have mk1 : (5 : Nat) < 6 := by omega
          go_wp2_with first
            | (at_builtin; clear mk1; go_must (refine wpList_app1 wr rfl (.tmp 25) (.tmp 28) 27 rfl w.heap.size 5 i0 (.int .u8 0) 1 Tryd.underlying27 hi0 hz0 hz1 hz2 rfl u5 k _ rfl hoI (.int .u8 (bits .xor .u8 0 54)) (.int .u8 ((x ^^^ 0x36).toNat : Int)) rfl (by rw [HX0.out] <;> rfl) rfl (by omega) (by unfold maxLen; omega) hbs ?_); intro v1 w2 hA1; have hoO2 := hoO.kept hA1.grown hap.2; have hap2 := apart_1 hap hA1 hoO; have hB2 := hB.trans (hA1.below hoI hbs); have hbs2 := hB2.size; clear hap hoO hB)
            | (at_builtin; go_must (refine wpList_app1 w2 rfl (.tmp 30) (.tmp 33) 27 rfl w.heap.size 5 i0 (.int .u8 0) 1 Tryd.underlying27 hi0 hz0 hz1 hz2 rfl u6 k _ rfl hoO2 (.int .u8 (bits .xor .u8 0 92)) (.int .u8 ((x ^^^ 0x5C).toNat : Int)) rfl (by rw [HX0.out] <;> rfl) rfl (by omega) (by unfold maxLen; omega) hbs2 ?_); intro v2 w3 hA2)
          have hoI3 := hA1.own.kept hA2.grown hap2.1
          have hap3 := apart_1 hap2.symm hA2 hA1.own
          have hB3 := hB2.trans (hA2.below hoO2 hbs2)
          have hoO3 := hA2.own
          rw [← HX1.out] at hoI3
          rw [← HX2.out] at hoO3
          clear hA1 hA2 hoI hoO2 hap2 hB2
          go_simp
          go_wp2_with fail
          exact ⟨⟨k + 1, by omega, by go_num, hoI3, hoO3, hap3.symm⟩, by simp [intOf]; omega⟩
      · obtain rfl : k = 64 := by omega
        obtain ⟨AI, cI, rfl, hcI, _⟩ := own_form hoI
        obtain ⟨AO, cO, rfl, hcO, _⟩ := own_form hoO
        have hrI := Rd.of_own hoI
        have hrO := Rd.of_own hoO
        rw [List.take_of_length_le (by simp)] at hrI hrO
        simp only [show ((64 : Nat) : Int) = 64 from rfl]
        clear hoI hoO hap hP
        go_wp2_with fail
        refine wp_region_ssaL (by kernel_rfl) [IsV (.slice AO 64 cO), IsV (.string ⟨(padL K 92).toArray⟩), IsV (.slice AI 64 cI), IsV (.string ⟨(padL K 54).toArray⟩), IsV (.string ⟨(l).toArray⟩), IsV (.string ⟨(padL K 54 ++ l).toArray⟩), IsV (.string ⟨(shaL (padL K 54 ++ l)).toArray⟩), IsV (.string ⟨(padL K 92 ++ shaL (padL K 54 ++ l)).toArray⟩), IsV (.string ⟨(hmacL K l).toArray⟩), IsV (.string ⟨(hmacL K l).toArray⟩)] (by kernel_rfl) ?_ ?_ ?_
        · intro φ hφ v w1 w2 h hg
          simp only [List.mem_cons, List.not_mem_nil, or_false] at hφ
          rcases hφ with rfl | rfl | rfl | rfl | rfl | rfl | rfl | rfl | rfl | rfl
          all_goals first | exact h | exact RdV.gr h hg
        · refine ⟨?_, ?_, ?_, ?_, ?_, ?_, ?_, ?_, ?_, ?_, trivial⟩
          · intro a1 w1 hG hF
            exact s_old rfl (wants0 rfl) (.tmp 6) (.inr rfl) (.slice AO 64 cO) (hF.ol 6 (by kernel_rfl)) rfl
          · intro a1 w1 hG hF
            obtain ⟨_, e35, rfl⟩ := hF.dp 0 35 (by kernel_rfl)
            exact s_str rfl (wants0 rfl) 27 9 5 (.tmp 35) rfl Tryd.underlying27 Tryd.underlying5 Tryd.underlying9 _ _ _ (padL K 92) e35 (((Gr.drew wr).trans hG).rd hrO) rfl
          · intro a1 w1 hG hF
            exact s_old rfl (wants0 rfl) (.tmp 5) (.inr rfl) (.slice AI 64 cI) (hF.ol 5 (by kernel_rfl)) rfl
          · intro a1 w1 hG hF
            obtain ⟨_, e37, rfl⟩ := hF.dp 2 37 (by kernel_rfl)
            exact s_str rfl (wants0 rfl) 27 9 5 (.tmp 37) rfl Tryd.underlying27 Tryd.underlying5 Tryd.underlying9 _ _ _ (padL K 54) e37 (((Gr.drew wr).trans hG).rd hrI) rfl
          · intro a1 w1 hG hF
            exact s_old rfl (wants0 rfl) (.tmp 1) (.inr rfl) (.string ⟨(l).toArray⟩) (hF.ol 1 (by kernel_rfl)) rfl
          · intro a1 w1 hG hF
            obtain ⟨_, e38, rfl⟩ := hF.dp 3 38 (by kernel_rfl)
            obtain ⟨_, e39, rfl⟩ := hF.dp 4 39 (by kernel_rfl)
            exact s_is rfl (wants0 rfl) _ rfl (run_addS (by simp; omega) e38 e39)
          · intro a1 w1 hG hF
            obtain ⟨_, e40, rfl⟩ := hF.dp 5 40 (by kernel_rfl)
            exact s_call rfl (wants0 rfl) _ rfl _ _ (by simp only [execOp, resolve, invoke, List.map_toArray, List.map_cons, List.map_nil, e40]; go_simp) ((hS3.out w1).mono fun e w2 ⟨he, hb⟩ => ⟨_, he, rfl, hb⟩)
          · intro a1 w1 hG hF
            obtain ⟨_, e36, rfl⟩ := hF.dp 1 36 (by kernel_rfl)
            obtain ⟨_, e41, rfl⟩ := hF.dp 6 41 (by kernel_rfl)
            exact s_is rfl (wants0 rfl) _ rfl (run_addS (by simp) e36 e41)
          · intro a1 w1 hG hF
            obtain ⟨_, e42, rfl⟩ := hF.dp 7 42 (by kernel_rfl)
            exact s_call rfl (wants0 rfl) _ rfl _ _ (by simp only [execOp, resolve, invoke, List.map_toArray, List.map_cons, List.map_nil, e42]; go_simp) ((hS4.out w1).mono fun e w2 ⟨he, hb⟩ => ⟨_, he, rfl, hb⟩)
          · intro a1 w1 hG hF
            exact s_same rfl (wants0 rfl) (.tmp 43) (.inl rfl) (hF.dp 8 43 (by kernel_rfl))
        · intro vs w1 hG hf
          have z4 : vs 9 = .string ⟨(hmacL K l).toArray⟩ := hf.2.2.2.2.2.2.2.2.2.1
          clear hf
          simp only [putAll, Nat.zero_add, Nat.reduceAdd, z4]
          go_simp
          go_wp2_with fail
          go_ret
          exact ⟨rfl, hB.trans (((Gr.drew wr).trans hG).mono hB.size)⟩
end Go.Proofs.YtnmhfomnlnlflaaDoor
/- The walk of bytes.Repeat of one byte, sixty-four times: its product. No condition. -/
namespace Go.Proofs.YtnmhfomnlnlflaaDoor
open Go.RowKit
section
variable {P : Program}
theorem wp_copyA {o : Oper} {a : Act} {K : Act → World → Prop} {Q : Exit → Act → World → Prop} {w : World} {t : TypeId} {g : Nat} {cs : List Value} (hA : Arr w g t cs) (d s : Operand) (dT sT : TypeId)
    (ho : o.op = .call { callee := .builtin .copy, args := #[d, s], argTypes := #[dT, sT] }) (elem : TypeId) (hu : P.underlying dT = some (.slice elem)) (hsz : (P.info? elem).map (·.size) = some 1)
    (off dLen dCap : Nat) (hd : a.eval d = .slice (some ⟨g, off, none⟩) dLen dCap) (A : Option Addr) (m c : Nat) (hs : a.eval s = .slice A m c) (news : List Value) (hr : Rd w A m news) (h1 : ∀ v ∈ news, v.oneCell' = true) (hm : m ≤ dLen) (hm0 : 0 < m) (hfit : off + dLen ≤ cs.length)
    (h : ∀ w2, Arr w2 g t (cs.take off ++ news ++ cs.drop (off + m)) → Below g w w2 → K (a.put o.dst (goInt m)) w2) : o.wp P a w K Q := by
  have hl : news.length = m := hr.1
  unfold Oper.wp
  obtain ⟨ad, _, rfl, _, _⟩ := hr.at_ hm0
  have hrun := run_copy_cells (P := P) w dT sT o.type elem g off dLen dCap ad m c news hu hsz (by rw [hl]; exact (Nat.min_eq_left hm).symm)
    (fun j v hv => by obtain ⟨ad', e, hc⟩ := hr.2 j v hv; injection e with e; subst e; exact hc)
    (fun j hj => by rw [hA.cell (List.getElem?_eq_getElem (by omega : off + j < cs.length))]; rfl) (fun j _ => hA.frozen _) h1
  simp only [execOp, ho, resolve, invoke, builtin, Sem.run_bind, Sem.run_pure, Result.andThen_ok, List.map_toArray, List.map_cons, List.map_nil, hd, hs, hrun]
  rw [hl]
  refine h _ ?_ (below_setCells (Nat.le_refl _) _ _ _)
  have := Arr.setCells_from news off w cs hA (by omega)
  rwa [hl] at this
theorem G_val {ops : Array Oper} {Q : Exit → Act → World → Prop} {L : List (Value → World → Prop)} {i : Nat} {o : Oper} {a : Act} {w : World} {G : World → World → Prop} (hrefl : G w w) (hi : ops[i]? = some o) (hg : o.guard = none) (x : Value) (hφ : L.getD i AnyV = IsV x) (hrun : (execOp a.eval o).run P w = .ok (.value x) w) :
    wpOp P ops Q i (fun a' w' => ∃ v, a' = a.put o.dst v ∧ (L.getD i AnyV) v w' ∧ G w w') a w := by
  rw [hφ]
  unfold wpOp
  have hw : Region.wanted o (yielded ops a.tmps) = true := by simp [Region.wanted, hg]
  simp only [hi, hw, if_true, Oper.wp, hrun, Oper.upon]
  exact .inl ⟨x, rfl, rfl, hrefl⟩
end
theorem dbl : ∀ p : Fin 33, 0 < p.val → 64 % p.val = 0 → 2 * p.val = 64 ∨ 2 * (2 * p.val) ≤ 64 ∧ 64 % (2 * p.val) = 0 := by decide
/-- The block's first p cells are the byte. -/
def RepI (g sz p : Nat) (x : UInt8) (w : World) : Prop := ∃ cl : List Value, cl.length = sz ∧ cl.take p = u8s (List.replicate p x) ∧ Arr w g 5 cl
structure RepG (B g sz p : Nat) (x : UInt8) (a b : World) : Prop where
  one : RepI g sz p x a → RepI g sz p x b
  two : RepI g sz (2 * p) x a → RepI g sz (2 * p) x b
  below : Below B a b
theorem RepG.refl (B g sz p : Nat) (x : UInt8) (w : World) : RepG B g sz p x w w := ⟨id, id, Below.refl _ _⟩
theorem RepG.trans {B g sz p : Nat} {x : UInt8} (a b c : World) (h : RepG B g sz p x a b) (k : RepG B g sz p x b c) : RepG B g sz p x a c := ⟨fun z => k.one (h.one z), fun z => k.two (h.two z), h.below.trans k.below⟩
theorem RepI.rd {g sz p : Nat} {x : UInt8} {w : World} (h : RepI g sz p x w) : Rd w (some ⟨g, 0, none⟩) p (u8s (List.replicate p x)) := by
  obtain ⟨cl, h4, h5, h6⟩ := h
  refine ⟨by simp, fun j v hj => ⟨_, rfl, ?_⟩⟩
  rw [← h5] at hj
  have hj2 : cl[j]? = some v := by
    rw [List.getElem?_take] at hj
    split at hj
    · exact hj
    · simp at hj
  have := h6.cell hj2
  rw [add_row, Nat.zero_add]
  exact this
theorem RepI.half {g sz p : Nat} {x : UInt8} {w : World} (h : RepI g sz (2 * p) x w) : RepI g sz p x w := by
  obtain ⟨cl, h4, h5, h6⟩ := h
  refine ⟨cl, h4, ?_, h6⟩
  have e : cl.take p = (cl.take (2 * p)).take p := by rw [List.take_take]; congr 1; omega
  rw [e, h5]
  simp [u8s, List.take_replicate]
  omega
/-- Behind a copy of its first p cells. -/
theorem RepI.double {g sz p : Nat} {x : UInt8} {w : World} {cl : List Value} (h4 : cl.length = sz) (h5 : cl.take p = u8s (List.replicate p x)) (hp : 2 * p ≤ sz) (hA : Arr w g 5 (cl.take p ++ u8s (List.replicate p x) ++ cl.drop (p + p))) : RepI g sz (2 * p) x w := by
  refine ⟨_, ?_, ?_, hA⟩
  · simp
    omega
  · rw [h5]
    have e : u8s (List.replicate p x) ++ u8s (List.replicate p x) = u8s (List.replicate (2 * p) x) := by
      rw [Nat.two_mul, ← List.replicate_append_replicate]
      simp [u8s]
    rw [e, List.take_append_of_le_length (by simp), List.take_of_length_le (by simp)]
def RepR (B g sz : Nat) (x : UInt8) (w0 : World) (bp : Value) (w : World) : Prop := ∃ p : Nat, (0 < p ∧ p ≤ 64 ∧ (p = 64 ∨ 2 * p ≤ 64 ∧ 64 % p = 0)) ∧ bp = .int .i64 (p : Int) ∧ RepI g sz p x w ∧ Below B w0 w
set_option maxRecDepth 100000 in
set_option maxHeartbeats 1000000 in
theorem mul64_one (w : World) : Calls Tryd.prog 101 #[.int .u64 1, .int .u64 64] w fun e w' => e = .returned (.tuple #[.int .u64 0, .int .u64 64]) ∧ w = w' := by
  go_enter Tryd.func101, Tryd.ntmps101
  go_wp2_with fail
  refine bodyPost_ret (results_tmp2 rfl _ _ _) rfl ?_
  exact ⟨rfl, rfl⟩
set_option maxRecDepth 100000 in
set_option maxHeartbeats 1000000 in
theorem mul_one (w : World) : Calls Tryd.prog 85 #[.int .u64 1, .int .u64 64] w fun e w' => e = .returned (.tuple #[.int .u64 0, .int .u64 64]) ∧ w = w' := by
  go_enter Tryd.func85, Tryd.ntmps85
  go_wp2_with (go_at_call 101; refine (mul64_one _).mono ?_; rintro e w1 ⟨rfl, rfl⟩)
  refine bodyPost_ret (results_tmp2 rfl _ _ _) rfl ?_
  exact ⟨rfl, rfl⟩
set_option maxRecDepth 100000 in
set_option maxHeartbeats 2000000 in
theorem repeat_any (A : Option Addr) (c : Nat) (x : UInt8) (w : World) (hr : Rd w A 1 (u8s [x])) :
    Calls Tryd.prog 66 #[.slice A 1 c, .int .i64 64] w fun e w' => ∃ g, e = .returned (.slice (some ⟨g, 0, none⟩) 64 64) ∧ Rd w' (some ⟨g, 0, none⟩) 64 (u8s (List.replicate 64 x)) ∧ Below w.heap.size w w' := by
  obtain ⟨cs, hrunM, hle, hmax⟩ := Lib.run_makeNoZero (P := Tryd.prog) w #[3] 27 5 Tryd.underlying27 64 (by omega)
  have hcall : (callFunc 86 #[.int .i64 64]).run Tryd.prog w = .ok (.value (.slice (some ⟨w.heap.size, 0, none⟩) 64 cs.size)) ((w.alloc (.cells cs 5)).drewN 2) := by
    rw [run_callFunc_extern Tryd.func86 (by kernel_rfl) (by kernel_rfl) (by kernel_rfl) (e := Extern.BytealgMakeNoZero.makeNoZero #[3] #[27]) (by kernel_rfl)]
    have h := hrunM
    rw [show ((64 : Nat) : Int) = 64 from rfl] at h
    rw [h]
    rfl
  have hm := hmax (by unfold maxLen; omega)
  unfold maxLen at hm
  clear hrunM hmax
  have i1 : (64 : Int) ≤ (cs.size : Int) := by omega
  go_enter Tryd.func66, Tryd.ntmps66
  have hA0 : Arr ((w.alloc (.cells cs 5)).drewN 2) w.heap.size 5 cs.toList := Arr.newAt (w := w) (t := 5) (C := cs) rfl rfl
  have hr0 : Rd ((w.alloc (.cells cs 5)).drewN 2) A 1 (u8s [x]) := hr.alloc _
  have hB0 : Below w.heap.size w ((w.alloc (.cells cs 5)).drewN 2) := ((Below.refl _ _).alloc (Nat.le_refl _) _).drew.drew
  have hcl : cs.toList.length = cs.size := by simp
  go_upto_region 17 with (go_at_call 85; refine (mul_one _).mono ?_; rintro e w1 ⟨rfl, rfl⟩)
  refine wp_region_list ?_
  refine wpList_val rfl (.slice (some ⟨w.heap.size, 0, none⟩) 64 64) ((w.alloc (.cells cs 5)).drewN 2) (by kernel_rfl) ?_
  refine wpList_val rfl (.slice A 1 c) ((w.alloc (.cells cs 5)).drewN 2) (by kernel_rfl) ?_
  refine wpList_copyA hA0 rfl (.tmp 58) (.tmp 59) 27 27 rfl 5 Tryd.underlying27 (by kernel_rfl) 0 64 64 (by kernel_rfl) A 1 c (by kernel_rfl) (u8s [x]) hr0 (u8s_oneCell _) (by omega) (by omega) ?_
  intro w2 hA2 hB2 hO2
  refine wpList_val rfl (.int .i64 1) w2 (by kernel_rfl) ?_
  unfold wpList
  go_simp
  go_wp2_with fail
  have hB3 : Below w.heap.size w w2 := hB0.trans hB2
  obtain ⟨g, hg⟩ : ∃ g, g = w.heap.size := ⟨_, rfl⟩
  rw [← hg] at hA2
  simp only [← hg]
  have HG := Lib.hid hg
  clear hg hA0 hr0 hB0 hO2 hB2 hcall hr
  go_loopw [10, 11] (fun bp ch wr => RepR w.heap.size g cs.size x w bp wr) (fun bp _ _ => 64 - (intOf bp).toNat)
  case atStart =>
    refine ⟨1, ⟨by omega, by omega, .inr ⟨by omega, by omega⟩⟩, rfl, ⟨_, ?_, ?_, hA2⟩, hB3⟩
    · simp
      omega
    · simp [u8s]
  case round =>
    obtain ⟨p, ⟨h0, h1, h2⟩, rfl, hI, h7⟩ := hrel
    have hr0 := hI.rd
    by_cases hp : p = 64
    · subst hp
      go_wp2_with fail
      go_ret
      exact ⟨_, rfl, hr0, h7⟩
    · have i5 : (p : Int) < 64 := by omega
      have i6 : min (p : Int) 64 = (p : Int) := by omega
      go_wp2_with fail
      clear i6
      have HC1 : Hid (∀ w : World, (Instr.sliceAt 27 (.slice (some ⟨g, 0, none⟩) 64 64) (some (.int .i64 ((p : Nat) : Int))) none none).run Tryd.prog w = .ok (.slice (some ⟨g, p, none⟩) (64 - p) (64 - p)) w) := by
        refine Lib.hid fun w => ?_
        rw [run_cut_l (P := Tryd.prog) (lo := p) Tryd.underlying27 (by kernel_rfl) rfl (by omega)]
        simp [cutA, Ne.symm hp, add_row]
      have HC2 : Hid (∀ w : World, (Instr.sliceAt 27 (.slice (some ⟨g, 0, none⟩) 64 64) none (some (.int .i64 ((p : Nat) : Int))) none).run Tryd.prog w = .ok (.slice (some ⟨g, 0, none⟩) p 64) w) :=
        Lib.hid fun w => run_cut_h (P := Tryd.prog) (hi := p) Tryd.underlying27 (by kernel_rfl) rfl (by omega) w
      refine wp_region_cutG (RepG w.heap.size g cs.size p x) (RepG.refl _ _ _ _ _) RepG.trans (by kernel_rfl) [IsV (.int .i64 ((p : Nat) : Int)), IsV (.slice (some ⟨g, 0, none⟩) 64 64), IsV (.int .i64 ((p : Nat) : Int)), IsV (.slice (some ⟨g, p, none⟩) (64 - p) (64 - p)), IsV (.slice (some ⟨g, 0, none⟩) 64 64), IsV (.int .i64 ((p : Nat) : Int)), IsV (.slice (some ⟨g, 0, none⟩) p 64), (fun v w => v = .int .i64 ((p : Nat) : Int) ∧ RepI g cs.size (2 * p) x w), IsV (.int .i64 ((2 * p : Nat) : Int))] 9 (by decide) (by kernel_rfl) (by kernel_rfl) (by kernel_rfl) ?_ ?_ ?_
      · intro φ hφ v w1 w2 h hg
        simp only [List.mem_cons, List.not_mem_nil, or_false] at hφ
        rcases hφ with rfl | rfl | rfl | rfl | rfl | rfl | rfl | rfl | rfl
        all_goals first | exact h | exact ⟨h.1, hg.two h.2⟩
      · refine ⟨?_, ?_, ?_, ?_, ?_, ?_, ?_, ?_, ?_, trivial⟩
        · intro a1 w1 hG hF
          exact G_val (RepG.refl _ _ _ _ _ _) rfl rfl _ rfl (by simp only [execOp, (hF.ol 10 (by kernel_rfl) : a1.eval (.tmp 10) = .int .i64 ((p : Nat) : Int))]; rfl)
        · intro a1 w1 hG hF
          exact G_val (RepG.refl _ _ _ _ _ _) rfl rfl _ rfl (by simp only [execOp, (hF.ol 9 (by kernel_rfl) : a1.eval (.tmp 9) = .slice (some ⟨g, 0, none⟩) 64 64)]; rfl)
        · intro a1 w1 hG hF
          exact G_val (RepG.refl _ _ _ _ _ _) rfl rfl _ rfl (by simp only [execOp, (hF.ol 10 (by kernel_rfl) : a1.eval (.tmp 10) = .int .i64 ((p : Nat) : Int))]; rfl)
        · intro a1 w1 hG hF
          obtain ⟨_, e68, rfl⟩ := hF.dp 1 68 (by kernel_rfl)
          obtain ⟨_, e69, rfl⟩ := hF.dp 2 69 (by kernel_rfl)
          exact G_val (RepG.refl _ _ _ _ _ _) rfl rfl _ rfl (by simp only [execOp, e68, e69, Option.map, Sem.run_bind, HC1.out, Result.andThen_ok, Sem.run_pure])
        · intro a1 w1 hG hF
          exact G_val (RepG.refl _ _ _ _ _ _) rfl rfl _ rfl (by simp only [execOp, (hF.ol 9 (by kernel_rfl) : a1.eval (.tmp 9) = .slice (some ⟨g, 0, none⟩) 64 64)]; rfl)
        · intro a1 w1 hG hF
          exact G_val (RepG.refl _ _ _ _ _ _) rfl rfl _ rfl (by simp only [execOp, (hF.ol 11 (by kernel_rfl) : a1.eval (.tmp 11) = .int .i64 ((p : Nat) : Int))]; rfl)
        · intro a1 w1 hG hF
          obtain ⟨_, e71, rfl⟩ := hF.dp 4 71 (by kernel_rfl)
          obtain ⟨_, e72, rfl⟩ := hF.dp 5 72 (by kernel_rfl)
          exact G_val (RepG.refl _ _ _ _ _ _) rfl rfl _ rfl (by simp only [execOp, e71, e72, Option.map, Sem.run_bind, HC2.out, Result.andThen_ok, Sem.run_pure])
        · intro a1 w1 hG hF
          obtain ⟨_, e70, rfl⟩ := hF.dp 3 70 (by kernel_rfl)
          obtain ⟨_, e73, rfl⟩ := hF.dp 6 73 (by kernel_rfl)
          have hI1 := hG.one hI
          have hr1 := hI1.rd
          obtain ⟨cl, h4, h5, h6⟩ := hI1
          unfold wpOp
          refine .inl (wp_copyA h6 (.tmp 70) (.tmp 73) 27 27 rfl 5 Tryd.underlying27 (by kernel_rfl) p (64 - p) (64 - p) e70 (some ⟨g, 0, none⟩) p 64 e73 (u8s (List.replicate p x)) hr1 (u8s_oneCell _) (by omega) h0 (by omega) ?_)
          intro w3 h6n hB4
          have hD := RepI.double h4 h5 (by omega) h6n
          exact ⟨_, rfl, ⟨rfl, hD⟩, ⟨fun _ => hD.half, fun _ => hD, hB4.mono (by rw [HG.out]; exact Nat.le_refl _)⟩⟩
        · intro a1 w1 hG hF
          obtain ⟨_, e67, rfl⟩ := hF.dp 0 67 (by kernel_rfl)
          obtain ⟨_, e74, rfl, _⟩ := hF.dp 7 74 (by kernel_rfl)
          exact G_val (RepG.refl _ _ _ _ _ _) rfl rfl _ rfl (by rw [run_addN (a := p) (b := p) e67 e74 (by omega), Nat.two_mul])
      · intro vs w1 hG hf
        have z75 : vs 8 = .int .i64 ((2 * p : Nat) : Int) := hf.2.2.2.2.2.2.2.2.1
        have hD : RepI g cs.size (2 * p) x w1 := hf.2.2.2.2.2.2.2.1.2
        have hB8 : Below w.heap.size w w1 := h7.trans ((Below.refl _ _).drew.trans hG.below)
        clear hf
        simp only [List.take_succ_cons, List.take_zero, List.drop_succ_cons, List.drop_zero, putAll, Nat.zero_add, Nat.reduceAdd, z75]
        refine wpList_val rfl (.int .i64 ((2 * p : Nat) : Int)) w1 (by kernel_rfl) ?_
        unfold wpList
        go_simp
        refine ⟨?_, ?_⟩
        · refine ⟨_, _, _, _, _, _, _, _, _, _, _, _, _, _, _, _, _, ?_, rfl⟩
          have hq := dbl ⟨p, by omega⟩ h0 (h2.resolve_left hp).2
          exact ⟨2 * p, ⟨by omega, by omega, hq⟩, by simp, hD, hB8⟩
        · show 64 - (intOf (.int .i64 (2 * (p : Int)))).toNat < 64 - (intOf (.int .i64 (p : Int))).toNat
          simp only [intOf]
          omega
end Go.Proofs.YtnmhfomnlnlflaaDoor
/- append(b, make([]byte, k)...): noughts behind a row of the call's own. No condition. -/
namespace Go.Proofs.YtnmhfomnlnlflaaDoor
open Go.RowKit
section
variable {P : Program} (w : World)
theorem zeroCells_u8 (k : Nat) : (Builtin.zeroCells (Value.cells (.int .u8 0)) k).toList = u8s (List.replicate k 0) := by
  apply List.ext_getElem
  · simp [Builtin.zeroCells, Value.cells]
  · intro i h1 h2
    have e0 : i % 1 = 0 := Nat.mod_one i
    simp [Builtin.zeroCells, Value.cells, u8s, e0]
theorem run_append_ownZ (base : Nat) (t tn ty e : TypeId) (i : TypeInfo) (ht : P.underlying t = some (.slice e)) (htn : P.underlying tn = some (.int .i64)) (hi : P.info? e = some i) (hz : i.zero = some (.int .u8 0))
    (hsize : i.size = 1) (hby : i.bytes = 1) (v : Value) (n : Nat) (l : List UInt8) (hown : w.ownsRow base e 1 v n (u8s l)) (k : Nat) (hb : n + k ≤ 1000000) (hbase : base ≤ w.heap.size) :
    ∃ v' w', (Builtin.append_ #[t, tn] ty #[v, .int .i64 (k : Int)]).run P w = .ok v' w' ∧ w'.ownsRow base e 1 v' (n + k) (u8s (l ++ List.replicate k 0)) ∧ w.grownBy w' v.ownBlock := by
  have hw : IntKind.i64.wrap (k : Int) = k := by rw [IntKind.wrap_i64]; omega
  have hneg : ¬ ((k : Int) < 0) := by omega
  have hw0 : IntKind.i64.wrap 0 = 0 := by rw [IntKind.wrap_i64]; rfl
  have h48i : ¬ (281474976710656 < (k : Int)) := by omega
  have hll : l.length = n := by have := hown.1; simpa using this
  have hlen : (u8s (l ++ List.replicate k 0)).length = (n + k) * 1 := by simp [hll]
  have hsplit : u8s (l ++ List.replicate k 0) = u8s l ++ (Builtin.zeroCells (Value.cells (.int .u8 0)) k).toList := by rw [zeroCells_u8]; simp [u8s]
  have hzl : (Builtin.zeroCells (Value.cells (.int .u8 0)) k).size = k := by simp [Builtin.zeroCells, Value.cells]
  have grown : ∀ (old : Nat), old < n + k → ∀ (row : Option Nat),
      (w.drew.alloc (.cells ((u8s l).toArray ++ Builtin.zeroCells (Value.cells (.int .u8 0)) k ++ Builtin.zeroCells (Value.cells (.int .u8 0)) (grownCap w (n + k) old e - (n + k))) e)).ownsRow base e 1
        (.slice (some ⟨w.heap.size, 0, none⟩) (n + k) (grownCap w (n + k) old e)) (n + k) (u8s (l ++ List.replicate k 0)) ∧
      w.grownBy (w.drew.alloc (.cells ((u8s l).toArray ++ Builtin.zeroCells (Value.cells (.int .u8 0)) k ++ Builtin.zeroCells (Value.cells (.int .u8 0)) (grownCap w (n + k) old e - (n + k))) e)) row := by
    intro old ho row
    have hge := grownCap_ge w (n + k) old e
    have hcm : grownCap w (n + k) old e ≤ maxLen := grownCap_le_maxLen w (n + k) old e (by unfold maxLen; omega)
    refine ⟨⟨hlen, .inr ⟨w.heap.size, _, _, rfl, hbase, heap_alloc_new w.drew _, hge, hcm, ?_, ?_⟩⟩, ⟨rfl, rfl, rfl, by simp, fun j hj _ => heap_alloc_old w.drew _ hj⟩⟩
    · simp [Builtin.zeroCells, Value.cells, hll]
      omega
    · rw [hsplit]
      simp only [Array.toList_append, List.append_assoc]
      rw [← List.append_assoc]
      have e1 : (n + k) * 1 = (u8s l ++ (Builtin.zeroCells (Value.cells (.int .u8 0)) k).toList).length := by simp [hzl, hll]
      rw [e1]
      exact List.take_left
  rcases hown.2 with ⟨rfl, rfl⟩ | ⟨g, cap, cur, rfl, hbg, hg, hnc, hcm, hcs, htake⟩
  · have hx : l = [] := List.eq_nil_of_length_eq_zero hll
    subst hx
    rcases Nat.eq_zero_or_pos k with hk | hk
    · subst hk
      refine ⟨.slice none 0 0, w, ?_, World.ownsRow_nil w base e 1, ⟨rfl, rfl, rfl, Nat.le_refl _, fun _ _ _ => rfl⟩⟩
      simp [Builtin.append_, run_underlying ht, run_underlying htn, sizeOf, typeInfo, hi, asInt, asIntOf, hw0]
    · have hr := Lib.run_append_grow_zeros (P := P) w t tn ty e i (.int .u8 0) .i64 .i64 ht htn hi hz none 0 0 [] (by rw [hsize]; exact run_firstCells_none w.drew 1 0 0 0) k (by omega) (by omega) (by omega) (by omega) (by rw [hby]; omega) (growslice_fits (by omega) (by rw [hby]; omega))
      have hgr := grown 0 (by omega) (Value.ownBlock (.slice none 0 0))
      exact ⟨_, _, hr, hgr.1, hgr.2⟩
  · by_cases hroom : n + k ≤ cap
    · have hst := run_storeCells_at P g n e (u8s (List.replicate k 0)) 0 cur w hg (by simp; omega) (u8s_oneCell _)
      simp only [Nat.add_zero] at hst
      have hrun : (Builtin.append_ #[t, tn] ty #[.slice (some ⟨g, 0, none⟩) n cap, .int .i64 (k : Int)]).run P w =
          .ok (.slice (some ⟨g, 0, none⟩) (n + k) cap) (w.setRow g (cur.toList.take n ++ u8s (List.replicate k 0) ++ cur.toList.drop (n + (u8s (List.replicate k 0)).length)).toArray) := by
        by_cases hk : k = 0
        · subst hk
          have hst' : (storeCells { block := g, off := n } []).run P w = .ok () (w.setRow g cur) := by simpa using hst
          simp [Builtin.append_, run_underlying ht, run_underlying htn, sizeOf, typeInfo, hi, hsize, asInt, asIntOf, hw0, Nat.add_zero n ▸ hroom, Addr.add_lit, hst']
        · simp [Builtin.append_, run_underlying ht, run_underlying htn, sizeOf, typeInfo, zeroValue, hi, hz, hsize, hby, asInt, asIntOf, hw, hneg, hroom, h48i, hk, zeroCells_u8, Addr.add_lit, hst]
      refine ⟨_, _, hrun, ⟨hlen, .inr ⟨g, cap, _, rfl, hbg, setRow_heap w g cur _ e _ hg, hroom, hcm, ?_, ?_⟩⟩, ⟨rfl, rfl, rfl, by simp, fun j _ hj => setRow_other w g j _ (fun e => hj (by simp [Value.ownBlock, e]))⟩⟩
      · simp only [List.size_toArray, List.length_append, List.length_take, List.length_drop, Array.length_toList]
        simp
        omega
      · have h3 : cur.toList.take n = u8s l := by rw [← htake]; simp
        rw [h3, hsplit, zeroCells_u8]
        have e1 : (n + k) * 1 = (u8s l ++ u8s (List.replicate k 0)).length := by simp [hll]
        rw [e1]
        exact List.take_left
    · have holds : ∀ j u, (u8s l)[j]? = some u → w.cell? ((⟨g, 0, none⟩ : Addr).add j) = some u := hown.cells (g := g) rfl
      have hr := Lib.run_append_grow_zeros (P := P) w t tn ty e i (.int .u8 0) .i64 .i64 ht htn hi hz (some ⟨g, 0, none⟩) n cap (u8s l) (run_firstCells_some (P := P) w.drew i.size n ⟨g, 0, none⟩ n cap (u8s l) (by simp [hsize, hll]) (fun j u hu => holds j u hu)) k (by omega) (by omega) (by omega) (by omega) (by rw [hby]; omega) (growslice_fits (by omega) (by rw [hby]; omega))
      have hgr := grown cap (by omega) (Value.ownBlock (.slice (some ⟨g, 0, none⟩) n cap))
      exact ⟨_, _, hr, hgr.1, hgr.2⟩
theorem wpList_appZ {ops : Array Oper} {rest : List Oper} {o : Oper} {a : Act} {Q : Exit → Act → World → Prop} (hgd : o.guard = none) (s x : Operand) (t tn : TypeId)
    (ho : o.op = .call { callee := .builtin .append, args := #[s, x], argTypes := #[t, tn] }) (base : Nat) (e : TypeId) (i : TypeInfo) (ht : P.underlying t = some (.slice e)) (htn : P.underlying tn = some (.int .i64)) (hi : P.info? e = some i) (hz : i.zero = some (.int .u8 0))
    (hsize : i.size = 1) (hby : i.bytes = 1) (v : Value) (n : Nat) (l : List UInt8) (hs : a.eval s = v) (hown : w.ownsRow base e 1 v n (u8s l)) (k : Nat) (hx : a.eval x = .int .i64 (k : Int)) (hb : n + k ≤ 1000000) (hbase : base ≤ w.heap.size)
    (h : ∀ v' w', w'.ownsRow base e 1 v' (n + k) (u8s (l ++ List.replicate k 0)) → w.grownBy w' v.ownBlock → wpList P ops Q rest (a.put o.dst v') w') : wpList P ops Q (o :: rest) a w :=
  wpList_plain hgd fun K hK => by
    obtain ⟨v', w', hr, h2, h3⟩ := run_append_ownZ (P := P) w base t tn o.type e i ht htn hi hz hsize hby v n l hown k hb hbase
    unfold Oper.wp execOp
    simp only [ho, resolve, invoke, builtin, Sem.run_bind, Sem.run_pure, Result.andThen_ok, List.map_toArray, List.map_cons, List.map_nil, hs, hx, hr]
    exact hK _ _ (h v' w' h2 h3)
end
end Go.Proofs.YtnmhfomnlnlflaaDoor
/- The walk of slices.Clone over bytes. No condition. -/
namespace Go.Proofs.YtnmhfomnlnlflaaDoor
open Go.RowKit
set_option maxRecDepth 100000 in
set_option maxHeartbeats 1000000 in
theorem clone_any (A : Option Addr) (n c : Nat) (l : List UInt8) (hn : n ≤ 1000000) (w : World) (hr : Rd w A n (u8s l)) (hA : A = none → n = 0 ∧ c = 0) :
    Calls Tryd.prog 65 #[.slice A n c] w fun e w' => ∃ v, e = .returned v ∧ w'.ownsRow w.heap.size 5 1 v n (u8s l) ∧ Below w.heap.size w w' := by
  obtain ⟨i0, hi0, hz0, hz1, hz2⟩ := info_parts Tryd.info5
  cases A with
  | none =>
    obtain ⟨rfl, rfl⟩ := hA rfl
    have hl : l = [] := by have := hr.1; simpa using this
    subst hl
    have he : ∀ w : World, (binOp .eql 27 (.slice none 0 0) (.slice none 0 0)).run Tryd.prog w = .ok (.bool true) w := fun _ => rfl
    go_enter Tryd.func65, Tryd.ntmps65
    go_wp2_with fail
    go_ret
    exact ⟨_, rfl, World.ownsRow_nil _ _ _ _, Below.refl _ _⟩
  | some ad =>
    clear hA
    have he : ∀ w : World, (binOp .eql 27 (.slice (some ad) n c) (.slice none 0 0)).run Tryd.prog w = .ok (.bool false) w := fun _ => rfl
    go_enter Tryd.func65, Tryd.ntmps65
    go_wp2_with (at_builtin; go_must (refine wpList_clip _ rfl (.tmp 5) (.tmp 6) 27 rfl 5 i0 (.int .u8 0) Tryd.underlying27 hi0 hz0 hz1 hz2 rfl w.heap.size rfl rfl (some ad) n c l rfl hr (by omega) ?_))
    intro v1 w1 ho1 hB1
    go_simp
    go_wp2_with fail
    go_ret
    exact ⟨_, rfl, ho1, hB1⟩
end Go.Proofs.YtnmhfomnlnlflaaDoor
/- The walks of the document's All and Few. No condition. -/
namespace Go.Proofs.YtnmhfomnlnlflaaDoor
open Go.RowKit
theorem infoRow : (Tryd.prog.info? 27).map (fun i => (i.zero, i.size, i.bytes)) = some (some (.slice none 0 0), 1, 24) := by kernel_rfl
theorem run_build1S {ev : Operand → Value} {d : Option Tmp} {t : TypeId} {p : String} {af : Array Edge} {gd : Option (Nat × Bool)} {w : World} {x : Operand} {A : Option Addr} {n c : Nat} (h1 : ev x = .slice A n c) :
    (execOp ev ⟨d, .buildSlice 41 1 #[(0, x)], t, p, af, gd⟩).run Tryd.prog w = .ok (.value (.slice (some ⟨w.heap.size, 0, none⟩) 1 1)) (w.alloc (.cells #[.slice A n c] 27)) := by
  simp only [execOp]
  go_simp
/-- A slice of one slice, of at most so many bytes, all of it made since. -/
def P35 (B size : Nat) (v : Value) (w : World) : Prop :=
  ∃ (g : Nat) (p : Part), v = .slice (some ⟨g, 0, none⟩) 1 1 ∧ w.cell? ⟨g, 0, none⟩ = some p.val ∧ Rd w p.A p.n (u8s p.l) ∧ p.n ≤ p.c ∧ p.n ≤ size ∧ ∀ ad, p.A = some ad → B ≤ ad.block ∧ ad.block < w.heap.size
theorem P35.gr {B size : Nat} {v : Value} {w w' : World} (h : P35 B size v w) (g : Gr w w') : P35 B size v w' := by
  obtain ⟨g1, p, h1, h2, h3, h4, h5, h6⟩ := h
  exact ⟨g1, p, h1, g.cell h2, g.rd h3, h4, h5, fun ad e => ⟨(h6 ad e).1, Nat.lt_of_lt_of_le (h6 ad e).2 g.size⟩⟩
theorem NewV.gr {B : Nat} {e : TypeId} {v : Value} {w w' : World} (h : NewV B e v w) (g : Gr w w') : NewV B e v w' := by
  obtain ⟨g1, h1, h2⟩ := h
  exact ⟨g1, h1, Gr.own g h2⟩
theorem CopyV.gr {B : Nat} {e : TypeId} {l : List UInt8} {v : Value} {w w' : World} (h : CopyV B e l v w) (g : Gr w w') : CopyV B e l v w' := Gr.own g h
/-- So many slices, each of at most so many bytes, all made since w. -/
def FewR (w : World) (n most size : Nat) (v i : Value) (wr : World) : Prop :=
  ∃ (k : Nat) (A : Option Addr) (c : Nat) (ps : List Part), k ≤ n ∧ k ≤ most ∧ i = .int .i64 (k : Int) ∧ v = .slice A k c ∧ wr.ownsRow w.heap.size 27 1 (.slice A k c) k (ps.map Part.val) ∧
    (∀ p ∈ ps, Rd wr p.A p.n (u8s p.l) ∧ p.n ≤ p.c ∧ p.n ≤ size ∧ ∀ ad, p.A = some ad → ad.block < wr.heap.size ∧ (Value.slice A k c).ownBlock ≠ some ad.block) ∧ Below w.heap.size w wr
theorem Part.one (p : Part) : p.val.oneCell' = true := rfl
end Go.Proofs.YtnmhfomnlnlflaaDoor
/- The walk of hmac.padded: a key's block. No condition. -/
namespace Go.Proofs.YtnmhfomnlnlflaaDoor
open Go.RowKit
theorem own_down {w : World} {b b' : Nat} {e : TypeId} {size n : Nat} {v : Value} {xs : List Value} (h : w.ownsRow b e size v n xs) (hb : b' ≤ b) : w.ownsRow b' e size v n xs := by
  rcases h with ⟨h1, h2 | ⟨g, cap, cur, e1, e2, e3⟩⟩
  · exact ⟨h1, .inl h2⟩
  · exact ⟨h1, .inr ⟨g, cap, cur, e1, by omega, e3⟩⟩
theorem mixL_rep (l : List UInt8) (x : UInt8) : ∀ {n : Nat}, l.length = n → mixL l (List.replicate n x) = l.map (· ^^^ x) := by
  induction l with
  | nil => intro n hn; simp [mixL]
  | cons a l ih =>
    intro n hn
    obtain ⟨k, rfl⟩ : ∃ k, n = k + 1 := ⟨l.length, by simpa using hn.symm⟩
    have := ih (n := k) (by simpa using hn)
    simp only [mixL] at this
    simp [mixL, List.replicate_succ, this]
set_option maxRecDepth 100000 in
set_option maxHeartbeats 4000000 in
theorem padded_any (A : Option Addr) (n c : Nat) (K : List UInt8) (x : UInt8) (hn : n ≤ 1000000) (hnc : n ≤ c) (w : World) (hr : Rd w A n (u8s K)) (hA : A = none → n = 0 ∧ c = 0) (gw : Glob w) :
    Calls Tryd.prog 48 #[.slice A n c, .int .u8 (x.toNat : Int)] w fun e w' => ∃ v, e = .returned v ∧ w'.ownsRow w.heap.size 5 1 v 64 (u8s (padL K x)) ∧ Below w.heap.size w w' := by
  obtain ⟨i0, hi0, hz0, hz1, hz2⟩ := info_parts Tryd.info5
  have hKl : K.length = n := by simpa using hr.1
  by_cases h64 : 64 < n
  · have HP : Hid (padL K x = mixL (shaL K ++ List.replicate (64 - 32) 0) (List.replicate 64 x)) := by
      show _ = _
      rw [mixL_rep _ _ (by simp), padL, show keyL K = shaL K by rw [keyL, if_pos (by omega)], shaL_length]
    obtain ⟨D, hD⟩ : ∃ D, D = shaL K := ⟨_, rfl⟩
    have hDl : D.length = 32 := by rw [hD]; simp
    rw [← hD] at HP
    have HS : Hid (∀ w A n c ps, n ≤ 100 → Parts w A n ps → allP ps = K → Glob w → Calls Tryd.prog 47 #[.slice A n c] w fun e w' => e = .returned (.agg (u8s D).toArray) ∧ Below w.heap.size w w') := by
      intro w A n c ps hn' hp hl hg
      rw [hD]
      exact shaSum_any A n c ps (by omega) K hl (by omega) w hp hg
    clear hD
    go_enter Tryd.func48, Tryd.ntmps48
    go_upto_region 4 with first
      | (go_at_call 47; refine (HS.out _ _ 1 1 [⟨A, n, c, K⟩] (by omega) (parts1 rfl _ ⟨A, n, c, K⟩ hr hnc) (by simp [allP]) (gw.gr (Gr.alloc _ _))).mono ?_; rintro e w1 ⟨rfl, hB1⟩)
      | (refine wpList_new rfl 22 (.tmp 5) (.tmp 12) rfl _ (u8s D) rfl rfl rfl (by simp only [u8s_length, hDl]; rfl) (infoU8_32 D hDl) (u8s_oneCell _) ?_; intro w5 h5 hG5)
    have hB0 : Below w.heap.size w w1 := ((Below.refl _ _).alloc (Nat.le_refl _) _).trans (hB1.mono (by simp only [asz]; omega))
    have hB5 := hB0.trans (hG5.mono hB0.size)
    generalize w1.heap.size = g at h5 ⊢
    have hr5 := Arr.rdAllS h5 hDl
    clear hB0 hB1 hG5 h5 hr hA HS
    have HK6 : Hid ((64 : Int) - (32 : Int) = ((64 - 32 : Nat) : Int)) := by show _ = _; omega
    have HM : Hid (∀ B v w, World.ownsRow w B 5 1 v (32 + (64 - 32)) (u8s (D ++ List.replicate (64 - 32) 0)) → ∃ A c, v = .slice A 64 c ∧ Rd w A 64 (u8s (D ++ List.replicate (64 - 32) 0))) := by
      intro B v w ho
      have e : 32 + (64 - 32) = 64 := by omega
      rw [e] at ho
      obtain ⟨A, c, rfl, _, _⟩ := own_form ho
      exact ⟨A, c, rfl, Rd.of_own ho⟩
    have hclone := clone_any (some ⟨g, 0, none⟩) 32 32 D (by omega) w5 hr5 (by simp)
    go_wp2_with first
      | (go_at_call 65; refine hclone.mono ?_; rintro e wc ⟨vc, rfl, hoc, hBc⟩)
      | (at_builtin; go_must (refine wpList_appZ _ rfl (.tmp 15) (.tmp 18) 27 3 rfl w5.heap.size 5 i0 Tryd.underlying27 Tryd.underlying3 hi0 hz0 hz1 hz2 vc 32 D rfl hoc (64 - 32) (congrArg (Value.int .i64) HK6.out) (by omega) hBc.size ?_))
    intro vz wz hoz hgz
    obtain ⟨Az, cz, rfl, hrz⟩ := HM.out _ vz wz hoz
    have hBz : Below w5.heap.size w5 wz := hBc.grown hgz hBc.size (fun k hk => (hoc.lt k hk).1)
    have hB9 := hB5.trans (hBz.mono hB5.size)
    clear hoz hgz hoc hBc hBz HK6 HM hclone
    go_simp
    go_wp2_with fail
    go_at_call 66
    refine (repeat_any _ 1 x _ (rd_made rfl _ _ _ 1 _ rfl rfl)).mono ?_
    rintro e wy ⟨gy, rfl, hry, hBy⟩
    have hrz2 := ((Gr.alloc _ _).rd hrz).below hBy
    have hBy2 := hB9.trans ((((Below.refl _ _).alloc (Nat.le_refl _) _).trans (hBy.mono (by simp only [asz]; omega))).mono hB9.size)
    go_wp2_with (go_at_call 52; refine (mix_any _ _ _ _ _ _ _ _ (by omega) _ hrz2 hry).mono ?_; rintro e wx ⟨vx, rfl, hox, hBx⟩)
    go_ret
    rw [HP.out]
    exact ⟨_, rfl, own_down (by simpa using hox) hBy2.size, hBy2.trans (hBx.mono hBy2.size)⟩
  · have HP : Hid (padL K x = mixL (K ++ List.replicate (64 - n) 0) (List.replicate 64 x)) := by
      show _ = _
      rw [mixL_rep _ _ (by simp; omega), padL, show keyL K = K by rw [keyL, if_neg (by omega)], hKl]
    have hB0 := Below.refl w.heap.size w
    go_enter Tryd.func48, Tryd.ntmps48
    have HK6 : Hid ((64 : Int) - (n : Int) = ((64 - n : Nat) : Int)) := by show _ = _; omega
    have HM : Hid (∀ B v w, World.ownsRow w B 5 1 v (n + (64 - n)) (u8s (K ++ List.replicate (64 - n) 0)) → ∃ A c, v = .slice A 64 c ∧ Rd w A 64 (u8s (K ++ List.replicate (64 - n) 0))) := by
      intro B v w ho
      have e : n + (64 - n) = 64 := by omega
      rw [e] at ho
      obtain ⟨A, c, rfl, _, _⟩ := own_form ho
      exact ⟨A, c, rfl, Rd.of_own ho⟩
    have hclone := clone_any A n c K (by omega) w hr hA
    go_wp2_with first
      | (go_at_call 65; refine hclone.mono ?_; rintro e wc ⟨vc, rfl, hoc, hBc⟩)
      | (at_builtin; go_must (refine wpList_appZ _ rfl (.tmp 15) (.tmp 18) 27 3 rfl w.heap.size 5 i0 Tryd.underlying27 Tryd.underlying3 hi0 hz0 hz1 hz2 vc n K rfl hoc (64 - n) (congrArg (Value.int .i64) HK6.out) (by omega) hBc.size ?_))
    intro vz wz hoz hgz
    obtain ⟨Az, cz, rfl, hrz⟩ := HM.out _ vz wz hoz
    have hBz : Below w.heap.size w wz := hBc.grown hgz hBc.size (fun k hk => (hoc.lt k hk).1)
    have hB9 := hB0.trans (hBz.mono hB0.size)
    clear hoz hgz hoc hBc hBz HK6 HM hclone
    go_simp
    go_wp2_with fail
    go_at_call 66
    refine (repeat_any _ 1 x _ (rd_made rfl _ _ _ 1 _ rfl rfl)).mono ?_
    rintro e wy ⟨gy, rfl, hry, hBy⟩
    have hrz2 := ((Gr.alloc _ _).rd hrz).below hBy
    have hBy2 := hB9.trans ((((Below.refl _ _).alloc (Nat.le_refl _) _).trans (hBy.mono (by simp only [asz]; omega))).mono hB9.size)
    go_wp2_with (go_at_call 52; refine (mix_any _ _ _ _ _ _ _ _ (by omega) _ hrz2 hry).mono ?_; rintro e wx ⟨vx, rfl, hox, hBx⟩)
    go_ret
    rw [HP.out]
    exact ⟨_, rfl, own_down (by simpa using hox) hBy2.size, hBy2.trans (hBx.mono hBy2.size)⟩
end Go.Proofs.YtnmhfomnlnlflaaDoor
/- The walk of hmac.Sum: its digest. No condition. -/
namespace Go.Proofs.YtnmhfomnlnlflaaDoor
open Go.RowKit
/-- A row with one cell, just made. -/
theorem own_made1 (w : World) (y : Value) (e : TypeId) : (w.alloc (.cells #[y] e)).ownsRow w.heap.size e 1 (.slice (some ⟨w.heap.size, 0, none⟩) 1 1) 1 [y] :=
  ⟨rfl, .inr ⟨w.heap.size, 1, #[y], rfl, Nat.le_refl _, heap_alloc_new _ _, Nat.le_refl _, by decide, rfl, rfl⟩⟩
theorem run_build2S {ev : Operand → Value} {d : Option Tmp} {t : TypeId} {p : String} {af : Array Edge} {gd : Option (Nat × Bool)} {w : World} {x y : Operand} {A B : Option Addr} {n c n2 c2 : Nat} (h1 : ev x = .slice A n c) (h2 : ev y = .slice B n2 c2) :
    (execOp ev ⟨d, .buildSlice 41 2 #[(0, x), (1, y)], t, p, af, gd⟩).run Tryd.prog w = .ok (.value (.slice (some ⟨w.heap.size, 0, none⟩) 2 2)) (w.alloc (.cells #[.slice A n c, .slice B n2 c2] 27)) := by
  simp only [execOp]
  go_simp
theorem parts_one (ps : List Part) : ∀ v ∈ ps.map Part.val, v.oneCell' = true := by
  intro v hv
  obtain ⟨p, _, rfl⟩ := List.mem_map.1 hv
  rfl
set_option maxRecDepth 100000 in
set_option maxHeartbeats 4000000 in
theorem hmacSum_any (A : Option Addr) (n c : Nat) (K : List UInt8) (B : Option Addr) (m d : Nat) (ps : List Part) (l : List UInt8) (hn : n ≤ 1000000) (hnc : n ≤ c) (hm : m ≤ 900000) (hal : allP ps = l) (hl : l.length ≤ 900000) (w : World)
    (hr : Rd w A n (u8s K)) (hA : A = none → n = 0 ∧ c = 0) (hP : Parts w B m ps) (gw : Glob w) :
    Calls Tryd.prog 32 #[.slice A n c, .slice B m d] w fun e w' => e = .returned (.agg (u8s (hmacL K l)).toArray) ∧ Below w.heap.size w w' := by
  obtain ⟨i1, hi1, hy0, hy1, hy2⟩ := info_parts infoRow
  have HPA : Hid (∀ w (x : UInt8), Rd w A n (u8s K) → Glob w → Calls Tryd.prog 48 #[.slice A n c, .int .u8 (x.toNat : Int)] w fun e w' => ∃ v, e = .returned v ∧ w'.ownsRow w.heap.size 5 1 v 64 (u8s (padL K x)) ∧ Below w.heap.size w w') :=
    fun w x hr gw => padded_any A n c K x hn hnc w hr hA gw
  obtain ⟨p1, hp1⟩ : ∃ p, p = padL K 0x36 := ⟨_, rfl⟩
  obtain ⟨p2, hp2⟩ : ∃ p, p = padL K 0x5C := ⟨_, rfl⟩
  obtain ⟨D, hD⟩ : ∃ D, D = shaL (p1 ++ l) := ⟨_, rfl⟩
  obtain ⟨E, hE⟩ : ∃ E, E = shaL (p2 ++ D) := ⟨_, rfl⟩
  have hDl : D.length = 32 := by rw [hD]; simp
  have hEl : E.length = 32 := by rw [hE]; simp
  have hp1l : p1.length = 64 := by rw [hp1]; simp
  have hp2l : p2.length = 64 := by rw [hp2]; simp
  have HH : Hid (hmacL K l = E) := by
    show _ = _
    rw [hE, hD, hp1, hp2]
    rfl
  have HP1 : Hid (∀ w, Rd w A n (u8s K) → Glob w → Calls Tryd.prog 48 #[.slice A n c, .int .u8 54] w fun e w' => ∃ v, e = .returned v ∧ w'.ownsRow w.heap.size 5 1 v 64 (u8s p1) ∧ Below w.heap.size w w') := by
    intro w hr gw
    rw [hp1]
    exact HPA.out w 0x36 hr gw
  have HP2 : Hid (∀ w, Rd w A n (u8s K) → Glob w → Calls Tryd.prog 48 #[.slice A n c, .int .u8 92] w fun e w' => ∃ v, e = .returned v ∧ w'.ownsRow w.heap.size 5 1 v 64 (u8s p2) ∧ Below w.heap.size w w') := by
    intro w hr gw
    rw [hp2]
    exact HPA.out w 0x5C hr gw
  have HS1 : Hid (∀ w A n c ps, n ≤ 900001 → Parts w A n ps → allP ps = p1 ++ l → Glob w → Calls Tryd.prog 47 #[.slice A n c] w fun e w' => e = .returned (.agg (u8s D).toArray) ∧ Below w.heap.size w w') := by
    intro w A n c ps hn hp hl2 hg
    rw [hD]
    exact shaSum_any A n c ps (by omega) _ hl2 (by rw [List.length_append]; omega) w hp hg
  have HS2 : Hid (∀ w A ps, Parts w A 2 ps → allP ps = p2 ++ D → Glob w → Calls Tryd.prog 47 #[.slice A 2 2] w fun e w' => e = .returned (.agg (u8s E).toArray) ∧ Below w.heap.size w w') := by
    intro w A ps hp hl2 hg
    rw [hE]
    exact shaSum_any A 2 2 ps (by omega) _ hl2 (by rw [List.length_append]; omega) w hp hg
  have h4 : Arr (w.alloc (.cells (u8s (List.replicate 32 0)).toArray 22)) w.heap.size 22 (u8s (List.replicate 32 0)) := Arr.newAt rfl rfl
  have G0 : Gr w (w.alloc (.cells (u8s (List.replicate 32 0)).toArray 22)) := Gr.alloc _ _
  clear hD hE hp1 hp2 HPA
  go_enter Tryd.func32, Tryd.ntmps32
  go_wp2_with fail
  change Calls _ _ _ (w.alloc (.cells (u8s (List.replicate 32 0)).toArray 22)) _
  have hs0 : w.heap.size < (w.alloc (.cells (u8s (List.replicate 32 0)).toArray 22)).heap.size := by simp
  generalize hw0 : w.alloc (.cells (u8s (List.replicate 32 0)).toArray 22) = w0 at h4 G0 hs0 ⊢
  clear hw0
  obtain ⟨g4, hg4⟩ : ∃ g, g = w.heap.size := ⟨_, rfl⟩
  rw [← hg4] at h4 hs0
  simp only [← hg4]
  have HG4 := Lib.hid hg4
  clear hg4
  have mk1 : True := trivial
  refine (HP1.out w0 (G0.rd hr) (gw.gr G0)).mono ?_
  rintro e w1 ⟨v1, rfl, ho1, hB1⟩
  obtain ⟨A1, c1, rfl, hc1, _⟩ := own_form ho1
  have hr1 := Rd.of_own ho1
  have G1 : Gr w w1 := G0.trans hB1
  have h41 := h4.gr hB1
  have hs1 : g4 < w1.heap.size := Nat.lt_of_lt_of_le hs0 hB1.size
  clear ho1 hB1 h4 G0 hs0
  go_wp2_with (at_builtin; go_must (refine wpList_app _ rfl (.tmp 8) (.tmp 9) 41 rfl w1.heap.size 27 i1 (.slice none 0 0) 24 Tryd.underlying41 hi1 hy0 hy1 hy2 rfl (.slice (some ⟨w1.heap.size, 0, none⟩) 1 1) 1 [.slice A1 64 c1] rfl (own_made1 w1 _ _) B m d (ps.map Part.val) rfl ((Gr.alloc _ _).rd (G1.rd hP.row)) (parts_one ps) (by omega) (by unfold maxLen; omega) (by simp) ?_))
  intro v2 w2 hA2
  obtain ⟨A2, c2, rfl, _, _⟩ := own_form hA2.own
  have hr2 := Rd.of_own hA2.own
  have G2 : Gr w1 w2 := ((Below.refl _ _).alloc (Nat.le_refl _) _).trans (hA2.below (own_made1 w1 _ _) (by simp))
  have hP2 : Parts w2 A2 (1 + m) (⟨A1, 64, c1, p1⟩ :: ps) := ⟨hr2, fun p hp => by
    rcases List.mem_cons.1 hp with rfl | hp
    · exact ⟨G2.rd hr1, hc1⟩
    · exact ⟨G2.rd (G1.rd (hP.each p hp).1), (hP.each p hp).2⟩⟩
  have hS := HS1.out w2 A2 (1 + m) c2 _ (by omega) hP2 (by simp only [allP, List.flatMap_cons] at hal ⊢; rw [hal]) ((gw.gr G1).gr G2)
  have G3 := G1.trans G2
  have h42 := h41.gr G2
  have hs2 : g4 < w2.heap.size := Nat.lt_of_lt_of_le hs1 G2.size
  clear hA2 hr2 hP2 G1 G2 h41 hs1 hr1
  go_simp
  go_wp2_with first
    | (go_at_call 47; refine hS.mono ?_; rintro e w3 ⟨rfl, hB3⟩)
    | (refine wpList_new rfl 22 (.tmp 5) (.tmp 11) rfl _ (u8s D) rfl rfl rfl (by simp only [u8s_length, hDl]; rfl) (infoU8_32 D hDl) (u8s_oneCell _) ?_; intro w5 h5 hG5)
  have h45 := (h42.gr hB3).gr hG5
  have hs5 : g4 < w5.heap.size := Nat.lt_of_lt_of_le (Nat.lt_of_lt_of_le hs2 hB3.size) hG5.size
  have G5 : Gr w w5 := (G3.trans hB3).trans hG5
  have hr6 := G5.rd hr
  have gw5 := gw.gr G5
  generalize w3.heap.size = g5 at h5 ⊢
  have hr5 := Arr.rdAllS h5 hDl
  clear h42 hs2 G3 hB3 hG5 hS h5
  refine wp_region_cut (by kernel_rfl) [IsV (.slice A n c), RdV (64) (p2), IsV (.slice (some ⟨g5, 0, none⟩) 32 32), PartsV 2 2 (p2 ++ D), IsV (.agg (u8s E).toArray)] 5 (by decide) (by kernel_rfl) (by kernel_rfl) (by kernel_rfl) ?_ ?_ ?_
  · intro φ hφ v w1 w2 h hg
    simp only [List.mem_cons, List.not_mem_nil, or_false] at hφ
    rcases hφ with rfl | rfl | rfl | rfl | rfl
    all_goals first | exact h | exact RdV.gr h hg | exact PartsV.gr h hg
  · refine ⟨?_, ?_, ?_, ?_, ?_, trivial⟩
    · intro a1 w1 hG hF
      exact s_old rfl (wants0 rfl) (.tmp 0) (.inr rfl) (.slice A n c) (hF.ol 0 (by kernel_rfl)) rfl
    · intro a1 w1 hG hF
      obtain ⟨_, e12, rfl⟩ := hF.dp 0 12 (by kernel_rfl)
      exact s_call rfl (wants0 rfl) _ rfl _ _ (by simp only [execOp, resolve, invoke, List.map_toArray, List.map_cons, List.map_nil, e12]; go_simp) ((HP2.out w1 (((Gr.drew w5).trans hG).rd hr6) (gw5.gr ((Gr.drew w5).trans hG))).mono fun e w2 ⟨v, he, ho, hb⟩ => ⟨_, he, RdV.own ho, hb⟩)
    · intro a1 w1 hG hF
      have e5 : a1.eval (.tmp 5) = .pointer (some ⟨g5, 0, none⟩) := hF.ol 5 (by kernel_rfl)
      exact s_is rfl (wants0 rfl) _ rfl (by simp only [execOp, e5, Option.map, Sem.run_bind, run_cutAll (P := Tryd.prog) Tryd.underlying22 (by kernel_rfl), Result.andThen_ok, Sem.run_pure])
    · intro a1 w1 hG hF
      obtain ⟨_, e13, A13, c13, rfl, hc13, r13⟩ := hF.dp 1 13 (by kernel_rfl)
      obtain ⟨_, e14, rfl⟩ := hF.dp 2 14 (by kernel_rfl)
      exact s_val rfl (wants0 rfl) _ rfl (.slice (some ⟨w1.heap.size, 0, none⟩) 2 2) (w1.alloc (.cells #[.slice A13 64 c13, .slice (some ⟨g5, 0, none⟩) 32 32] 27)) (run_build2S e13 e14) ⟨_, [⟨A13, 64, c13, p2⟩, ⟨some ⟨g5, 0, none⟩, 32, 32, D⟩], rfl, partsN rfl _ _ _ 2 rfl rfl (by
        intro p hp
        simp only [List.mem_cons, List.not_mem_nil, or_false] at hp
        rcases hp with rfl | rfl
        · exact ⟨r13, hc13⟩
        · exact ⟨((Gr.drew w5).trans hG).rd hr5, Nat.le_refl _⟩), by simp [allP]⟩ (Gr.alloc _ _)
    · intro a1 w1 hG hF
      obtain ⟨x15, e15, f15⟩ := hF.dp 3 15 (by kernel_rfl)
      obtain ⟨A15, ps15, rfl, h15, l15⟩ := f15
      exact s_call rfl (wants0 rfl) _ rfl _ _ (by simp only [execOp, resolve, invoke, List.map_toArray, List.map_cons, List.map_nil, e15]; go_simp) ((HS2.out w1 A15 ps15 h15 l15 (gw5.gr ((Gr.drew w5).trans hG))).mono fun e w2 ⟨he, hb⟩ => ⟨_, he, rfl, hb⟩)
  · intro vs w1 hG hf
    have z16 : vs 4 = .agg (u8s E).toArray := hf.2.2.2.2.1
    clear hf
    simp only [List.take_succ_cons, List.take_zero, List.drop_succ_cons, List.drop_zero, putAll, Nat.zero_add, Nat.reduceAdd, z16]

    have G6 := G5.trans ((Gr.drew _).trans hG)
    have h46 := h45.gr ((Gr.drew _).trans hG)
    refine wpList_put h46 rfl 22 (.tmp 4) (.tmp 16) rfl (u8s E) (by kernel_rfl) (by kernel_rfl) (by simp [hEl]) (infoU8_32 E hEl) (u8s_oneCell _) ?_
    intro w7 h47 hB7 _
    unfold wpList
    go_simp
    go_wp2_with fail
    refine bodyPost_ret (results_cell_row rfl _ _ g4 _ _ _ _ rfl h47 Tryd.underlying22 rfl (by have := infoU8_32 E hEl; simpa using this)) rfl ?_
    rw [HH.out]
    rw [HG4.out] at hB7
    exact ⟨rfl, Below.trans G6 hB7⟩
end Go.Proofs.YtnmhfomnlnlflaaDoor
/- The walk of hkdf.Expand. No condition. -/
namespace Go.Proofs.YtnmhfomnlnlflaaDoor
open Go.RowKit
/-- Expanded so far: what came out, the last digest, in a block of its own. -/
def ExpR (w0 : World) (K U : List UInt8) (q : Nat) (v last i : Value) (wr : World) : Prop :=
  ∃ (k m8 : Nat) (Al : Option Addr) (nl cl : Nat), m8 = 32 * k ∧ (k = 0 ∨ 32 * (k - 1) < q) ∧ i = .int .i64 ((k : Int) + 1) ∧ wr.ownsRow w0.heap.size 5 1 v m8 (u8s (outL K U k)) ∧ last = .slice Al nl cl ∧ nl ≤ cl ∧ Rd wr Al nl (u8s (lastL K U k)) ∧
    (∀ ad, Al = some ad → some ad.block ≠ v.ownBlock) ∧ Below w0.heap.size w0 wr
theorem Rd.grownB {w w' : World} {A : Option Addr} {n : Nat} {xs : List Value} {row : Option Nat} (h : Rd w A n xs) (hg : w.grownBy w' row) (hne : ∀ ad, A = some ad → some ad.block ≠ row) : Rd w' A n xs :=
  ⟨h.1, fun j v hj => by
    obtain ⟨ad, e, hc⟩ := h.2 j v hj
    refine ⟨ad, e, hg.cell hc ?_⟩
    have : (ad.add j).block = ad.block := by unfold Addr.add; split <;> rfl
    rw [this]
    exact hne ad e⟩
theorem run_cut_hm {P : Program} {T e : TypeId} {A : Option Addr} {n c hi : Nat} (hT : P.underlying T = some (.slice e)) (hsz : (P.info? e).map (·.size) = some 1) (h2 : hi ≤ c) (w : World) :
    (Instr.sliceAt T (.slice A n c) none (some (.int .i64 (hi : Int))) (some (.int .i64 (hi : Int)))).run P w = .ok (.slice A hi hi) w := by
  have e1 : P.elem T = e := by simp [Program.elem, hT]
  have e2 : A.map (·.add 0) = A := by cases A <;> simp [add_zero_]
  rw [run_sliceAt_slice w T _ _ _ _ (by rw [e1]; exact hT), run_slice_hm w T _ _ _ (by rw [e1]; exact hT) _ _ _ _ (by omega) (by omega) (by omega), e1]
  simp only [run_size1 hsz, Result.andThen_ok, sliced, Nat.zero_mul, e2, ite_self, Nat.sub_zero, Int.toNat_natCast]
set_option maxRecDepth 100000 in
set_option maxHeartbeats 4000000 in
theorem expand_no (A : Option Addr) (n c : Nat) (B : Option Addr) (m d : Nat) (q : Int) (hq : q < 0 ∨ 8160 < q) (w : World) :
    Calls Tryd.prog 31 #[.slice A n c, .slice B m d, .int .i64 q] w fun e w' => e = .returned (.tuple #[.slice none 0 0, .int .i64 1]) ∧ Below w.heap.size w w' := by
  by_cases h : q < 0
  · go_enter Tryd.func31, Tryd.ntmps31
    go_wp2_with fail
    refine bodyPost_ret (results_tmp2 rfl _ _ _) rfl ?_
    exact ⟨rfl, Below.refl _ _⟩
  · have h2 : 8160 < q := by omega
    go_enter Tryd.func31, Tryd.ntmps31
    go_wp2_with fail
    refine bodyPost_ret (results_tmp2 rfl _ _ _) rfl ?_
    exact ⟨rfl, Below.refl _ _⟩
set_option maxRecDepth 100000 in
set_option maxHeartbeats 8000000 in
theorem expand_row (A : Option Addr) (n c : Nat) (K : List UInt8) (B : Option Addr) (m d : Nat) (U : List UInt8) (q : Nat) (hn : n ≤ 100000) (hnc : n ≤ c) (hm : m ≤ 100000) (hmd : m ≤ d) (hq : q ≤ 8160) (w : World)
    (hr : Rd w A n (u8s K)) (hA : A = none → n = 0 ∧ c = 0) (hu : Rd w B m (u8s U)) (gw : Glob w) :
    Calls Tryd.prog 31 #[.slice A n c, .slice B m d, .int .i64 q] w fun e w' => ∃ A', e = .returned (.tuple #[.slice A' q q, .int .i64 0]) ∧ Rd w' A' q (u8s (expandL K U q)) ∧ Below w.heap.size w w' ∧ (0 < q → ∃ g, A' = some ⟨g, 0, none⟩) := by
  obtain ⟨i0, hi0, hz0, hz1, hz2⟩ := info_parts Tryd.info5
  have hul : U.length = m := by simpa using hu.1
  have HS : Hid (∀ w B2 ps k, Rd w A n (u8s K) → Parts w B2 3 ps → allP ps = lastL K U k ++ U ++ [UInt8.ofNat (k + 1)] → Glob w → Calls Tryd.prog 32 #[.slice A n c, .slice B2 3 3] w fun e w' => e = .returned (.agg (u8s (lastL K U (k + 1))).toArray) ∧ Below w.heap.size w w') := by
    intro w B2 ps k h1 h2 h3 h4
    have hle := lastL_le K U k
    exact hmacSum_any A n c K B2 3 3 ps _ (by omega) hnc (by omega) h3 (by simp; omega) w h1 hA h2 h4
  have HQ := Lib.hid hq
  have q1 : ¬ (q : Int) < 0 := by omega
  have q2 : ¬ (8160 : Int) < (q : Int) := by omega
  go_enter Tryd.func31, Tryd.ntmps31
  go_wp2_with fail
  go_simp
  go_loopw [8, 9, 10] (fun v last i wr => ExpR w K U q v last i wr) (fun v _ _ _ => q - lenSl v)
  case atStart =>
    exact ⟨0, 0, none, 0, 0, rfl, .inl rfl, rfl, World.ownsRow_nil _ _ _ _, rfl, Nat.le_refl _, Rd.nil _ _, (fun ad e => by cases e), Below.refl _ _⟩
  case round =>
    obtain ⟨k, m8, Al, nl, cl, hm8, hk, rfl, hown, rfl, hcl, hrl, hne, hB⟩ := hrel
    have hbs := hB.size
    obtain ⟨A8, c8, rfl, hc8, hA8, hr8⟩ := own_form3 hown
    have HM8 := Lib.hid hm8
    by_cases hlt : m8 < q
    · have hlti : (m8 : Int) < (q : Int) := by omega
      have hk254 : k ≤ 254 := by omega
      have hki : (k : Int) ≤ 254 := by omega
      have hb1 : (k : Int) + 1 = ((UInt8.ofNat (k + 1)).toNat : Int) := by rw [UInt8.toNat_ofNat']; omega
      have HB1 := Lib.hid hb1
      have hru := hu.below hB
      have hrk := hr.below hB
      have gwr := Glob.below hB gw
      have hk1 := lastL_succ K U k
      clear hm8 hk hb1
      go_wp2_with fail
      have hcell : Rd ((wr.alloc (.cells #[.int .u8 ((k : Int) + 1)] 5)).alloc (.cells #[.slice Al nl cl, .slice B m d, .slice (some ⟨wr.heap.size, 0, none⟩) 1 1] 27)) (some ⟨wr.heap.size, 0, none⟩) 1 (u8s [UInt8.ofNat (k + 1)]) :=
        (Gr.alloc _ _).rd (rd_made rfl _ _ _ 1 _ (by rw [HB1.out]; rfl) rfl)
      have hP : Parts ((wr.alloc (.cells #[.int .u8 ((k : Int) + 1)] 5)).alloc (.cells #[.slice Al nl cl, .slice B m d, .slice (some ⟨wr.heap.size, 0, none⟩) 1 1] 27)) (some ⟨wr.heap.size + 1, 0, none⟩) 3 [⟨Al, nl, cl, lastL K U k⟩, ⟨B, m, d, U⟩, ⟨some ⟨wr.heap.size, 0, none⟩, 1, 1, [UInt8.ofNat (k + 1)]⟩] :=
        ⟨rd_made (by simp only [asz]) _ _ _ 3 _ rfl rfl, fun p hp => by
          simp only [List.mem_cons, List.not_mem_nil, or_false] at hp
          rcases hp with rfl | rfl | rfl
          · exact ⟨(Gr.alloc _ _).rd ((Gr.alloc _ _).rd hrl), hcl⟩
          · exact ⟨(Gr.alloc _ _).rd ((Gr.alloc _ _).rd hru), hmd⟩
          · exact ⟨hcell, Nat.le_refl _⟩⟩
      have hc1 := HS.out _ _ _ k ((Gr.alloc _ _).rd ((Gr.alloc _ _).rd hrk)) hP (by simp [allP]) (gwr.gr ((Gr.alloc _ _).trans (Gr.alloc _ _)))
      obtain ⟨L, hL⟩ : ∃ L, L = lastL K U (k + 1) := ⟨_, rfl⟩
      rw [← hL] at hc1 hk1
      have HL := Lib.hid hL
      clear hL hcell hP
      refine hc1.mono ?_
      rintro e w2 ⟨rfl, hB2⟩
      have hG2 : Gr wr w2 := ((Gr.alloc _ _).trans (Gr.alloc _ _)).trans hB2
      have hs2 : wr.heap.size < w2.heap.size := by have := hB2.size; simp only [asz] at this; omega
      clear hc1 hB2 hrl hru hrk gwr
      go_upto_region 8 with (refine wpList_new rfl 22 (.tmp 11) (.tmp 31) rfl _ (u8s L) rfl rfl rfl (by simp only [u8s_length, hk1]; rfl) (infoU8_32 L hk1) (u8s_oneCell _) ?_; intro w3 h11 hG3)
      have hG4 := hG2.trans hG3
      have ho3 := Gr.own hG4 hown
      have hB3 := hB.trans (hG4.mono hbs)
      have hlt8 := fun g => hown.lt g
      have HLT := Lib.hid hlt8
      have hs3 : w2.heap.size < w3.heap.size := h11.lt
      generalize w2.heap.size = g11 at h11 hs2 hs3 ⊢
      have hr11 := Arr.rdAllS h11 hk1
      have hcut := fun w => run_cutAll (P := Tryd.prog) Tryd.underlying22 (by kernel_rfl) g11 w
      have hne11 : ∀ ad, some (⟨g11, 0, none⟩ : Addr) = some ad → some ad.block ≠ (Value.slice A8 m8 c8).ownBlock := by
        intro ad e
        injection e with e
        subst e
        intro h
        have := (HLT.out g11 h.symm).2
        omega
      have HNE := Lib.hid hne11
      clear hG2 hG3 hG4 hown hlt8 h11 hne11 hne hr8 hA8
      go_wp2_with (at_builtin; go_must (refine wpList_app _ rfl (.tmp 33) (.tmp 34) 27 rfl w.heap.size 5 i0 (.int .u8 0) 1 Tryd.underlying27 hi0 hz0 hz1 hz2 rfl (.slice A8 m8 c8) m8 _ rfl ho3 (some ⟨g11, 0, none⟩) 32 32 _ rfl hr11 (u8s_oneCell _) (by have := HQ.out; omega) (by unfold maxLen; have := HQ.out; omega) hB3.size ?_))
      intro v9 w9 hA9
      have ho9 := hA9.own
      have hB9 := hB3.trans (hA9.below ho3 hB3.size)
      have hr119 : Rd w9 (some ⟨g11, 0, none⟩) 32 (u8s L) := hr11.grownB hA9.grown HNE.out
      have hne9 : ∀ ad, some (⟨g11, 0, none⟩ : Addr) = some ad → some ad.block ≠ v9.ownBlock := by
        intro ad e
        rcases hA9.lies with h | ⟨g, h, hg⟩
        · rw [h]; exact HNE.out ad e
        · injection e with e
          subst e
          rw [h]
          intro h2
          injection h2 with h2
          have h3 : g11 = g := h2
          omega
      have hl9 := own_lenSl ho9
      have ho9b : w9.ownsRow w.heap.size 5 1 v9 (m8 + 32) (u8s (outL K U (k + 1))) := by
        rw [outL, u8s_append, ← HL.out]
        exact ho9
      clear hA9 ho3 ho9
      go_simp
      go_wp2_with fail
      have h1 := HM8.out
      refine ⟨⟨k + 1, m8 + 32, some ⟨g11, 0, none⟩, 32, 32, by omega, .inr (by rw [Nat.add_sub_cancel]; omega), by go_num, ho9b, rfl, Nat.le_refl _, by rw [← HL.out]; exact hr119, hne9, hB9⟩, ?_⟩
      simp only [lenSl] at hl9 ⊢
      omega
    · have hge : ¬ (m8 : Int) < (q : Int) := by omega
      have hcut := fun w1 => run_cut_hm (P := Tryd.prog) Tryd.underlying27 (by kernel_rfl) (A := A8) (n := m8) (c := c8) (hi := q) (by omega) w1
      have hrq : Rd wr A8 q (u8s (expandL K U q)) := by
        rw [← expandL_is K U (show q ≤ 32 * k by omega), ← u8s_take]
        exact hr8.take (by omega)
      clear hm8
      go_wp2_with fail
      refine bodyPost_ret (results_tmp2 rfl _ _ _) rfl ?_
      refine ⟨_, rfl, hrq, hB, fun h0 => ?_⟩
      rcases hown.2 with ⟨_, h2⟩ | ⟨g, cap, cur, e1, _⟩
      · omega
      · injection e1 with e1
        exact ⟨g, e1⟩
theorem expand_any (A : Option Addr) (n c : Nat) (K : List UInt8) (B : Option Addr) (m d : Nat) (U : List UInt8) (q : Nat) (hn : n ≤ 100000) (hnc : n ≤ c) (hm : m ≤ 100000) (hmd : m ≤ d) (hq : q ≤ 8160) (w : World)
    (hr : Rd w A n (u8s K)) (hA : A = none → n = 0 ∧ c = 0) (hu : Rd w B m (u8s U)) (gw : Glob w) :
    Calls Tryd.prog 31 #[.slice A n c, .slice B m d, .int .i64 q] w fun e w' => ∃ A', e = .returned (.tuple #[.slice A' q q, .int .i64 0]) ∧ Rd w' A' q (u8s (expandL K U q)) ∧ Below w.heap.size w w' :=
  (expand_row A n c K B m d U q hn hnc hm hmd hq w hr hA hu gw).mono fun _ _ ⟨A', h1, h2, h3, _⟩ => ⟨A', h1, h2, h3⟩
end Go.Proofs.YtnmhfomnlnlflaaDoor
/- The walk of the reference's Expand. No condition. -/
namespace Go.Proofs.YtnmhfomnlnlflaaDoor
open Go.RowKit
theorem strCells_of (l : List UInt8) : Lib.strCells ⟨l.toArray⟩ = u8s l := by simp [Lib.strCells, u8s]
set_option maxRecDepth 100000 in
set_option maxHeartbeats 2000000 in
theorem one_any (k : Nat) (hk : k ≤ 254) (w : World) :
    Calls Tryd.prog 77 #[.int .i64 ((k : Int) + 1)] w fun e w' => e = .returned (.string ⟨[UInt8.ofNat (k + 1)].toArray⟩) ∧ Below w.heap.size w w' := by
  have hki : (k : Int) ≤ 254 := by omega
  have hb1 : (k : Int) + 1 = ((UInt8.ofNat (k + 1)).toNat : Int) := by rw [UInt8.toNat_ofNat']; omega
  have hrd : Rd (w.alloc (.cells #[.int .u8 ((k : Int) + 1)] 5)) (some ⟨w.heap.size, 0, none⟩) 1 (u8s [UInt8.ofNat (k + 1)]) := rd_made rfl _ _ _ 1 _ (by rw [hb1]; rfl) rfl
  have hcv := run_str (P := Tryd.prog) (c := 1) (w.alloc (.cells #[.int .u8 ((k : Int) + 1)] 5)) Tryd.underlying27 Tryd.underlying5 Tryd.underlying9 hrd
  have HC := Lib.hid hcv
  obtain ⟨s, hs⟩ : ∃ s : ByteArray, s = ⟨[UInt8.ofNat (k + 1)].toArray⟩ := ⟨_, rfl⟩
  rw [← hs] at hcv ⊢
  clear hs hb1 hrd HC
  go_enter Tryd.func77, Tryd.ntmps77
  go_wp2_with fail
  go_ret
  exact ⟨rfl, (Below.refl _ _).alloc (Nat.le_refl _) _⟩
def RExpR (w0 : World) (K U : List UInt8) (q : Nat) (v last i : Value) (wr : World) : Prop :=
  ∃ (k m8 : Nat) (s : ByteArray), m8 = 32 * k ∧ (k = 0 ∨ 32 * (k - 1) < q) ∧ i = .int .i64 ((k : Int) + 1) ∧ wr.ownsRow w0.heap.size 5 1 v m8 (u8s (outL K U k)) ∧ last = .string s ∧ s = ⟨(lastL K U k).toArray⟩ ∧ Below w0.heap.size w0 wr
set_option maxRecDepth 100000 in
set_option maxHeartbeats 8000000 in
theorem refExpand_any (K U : List UInt8) (q : Nat) (hK : K.length ≤ 100000) (hU : U.length ≤ 100000) (hq : q ≤ 8160) (w : World) :
    Calls Tryd.prog 56 #[.string ⟨K.toArray⟩, .string ⟨U.toArray⟩, .int .i64 q] w fun e w' => e = .returned (.string ⟨(expandL K U q).toArray⟩) ∧ Below w.heap.size w w' := by
  obtain ⟨i0, hi0, hz0, hz1, hz2⟩ := info_parts Tryd.info5
  obtain ⟨kk, hkk⟩ : ∃ s : ByteArray, s = ⟨K.toArray⟩ := ⟨_, rfl⟩
  obtain ⟨uu, huu⟩ : ∃ s : ByteArray, s = ⟨U.toArray⟩ := ⟨_, rfl⟩
  have hus : uu.size = U.length := by rw [huu]; rfl
  have HH : Hid (∀ w (k : Nat) (s o : ByteArray), s = ⟨(lastL K U k).toArray⟩ → o = ⟨[UInt8.ofNat (k + 1)].toArray⟩ → Calls Tryd.prog 55 #[.string kk, .string (s ++ uu ++ o)] w fun e w' => e = .returned (.string ⟨(lastL K U (k + 1)).toArray⟩) ∧ Below w.heap.size w w') := by
    intro w k s o hs ho
    have hle := lastL_le K U k
    rw [hs, ho, huu, hkk, str_append, str_append]
    exact refHmac_any K (lastL K U k ++ U ++ [UInt8.ofNat (k + 1)]) (by omega) (by simp; omega) w
  have HQ := Lib.hid hq
  have hus2 : uu.size ≤ 100000 := by omega
  rw [← hkk, ← huu]
  clear hkk huu hus
  go_enter Tryd.func56, Tryd.ntmps56
  go_wp2_with fail
  go_simp
  go_loopw [7, 8, 9] (fun v last i wr => RExpR w K U q v last i wr) (fun v _ _ _ => q - lenSl v)
  case atStart => exact ⟨0, 0, _, rfl, .inl rfl, rfl, World.ownsRow_nil _ _ _ _, rfl, rfl, Below.refl _ _⟩
  case round =>
    obtain ⟨k, m8, s, hm8, hk, rfl, hown, rfl, hs, hB⟩ := hrel
    have hbs := hB.size
    obtain ⟨A8, c8, rfl, hc8, hA8, hr8⟩ := own_form3 hown
    have HM8 := Lib.hid hm8
    have HS := Lib.hid hs
    have hss : s.size ≤ 32 := by rw [hs]; exact lastL_le K U k
    by_cases hlt : m8 < q
    · have hlti : (m8 : Int) < (q : Int) := by omega
      have hk254 : k ≤ 254 := by omega
      have hki : (k : Int) ≤ 254 := by omega
      have n1 : ¬ 9223372036854775807 < s.size + uu.size := by omega
      have n2 : ¬ 9223372036854775807 < s.size + uu.size + 1 := by omega
      obtain ⟨o, ho⟩ : ∃ s : ByteArray, s = ⟨[UInt8.ofNat (k + 1)].toArray⟩ := ⟨_, rfl⟩
      have hos : o.size = 1 := by rw [ho]; rfl
      have n3 : ¬ 9223372036854775807 < s.size + uu.size + o.size := by omega
      have hc1 := one_any k hk254 wr
      rw [← ho] at hc1
      have HO := Lib.hid ho
      clear hm8 hk hs ho hos n2
      go_wp2_with fail
      refine hc1.mono ?_
      rintro e w1 ⟨rfl, hB1⟩
      go_wp2_with fail
      refine (HH.out w1 k s o HS.out HO.out).mono ?_
      rintro e w2 ⟨rfl, hB2⟩
      have hG : Gr wr w2 := Gr.trans hB1 hB2
      have hown2 := Gr.own hG hown
      have hB3 := hB.trans (hG.mono hbs)
      obtain ⟨L, hL⟩ : ∃ L, L = lastL K U (k + 1) := ⟨_, rfl⟩
      have hLl : L.length = 32 := by rw [hL, lastL_succ]
      rw [← hL]
      have HL := Lib.hid hL
      have hsz : (⟨L.toArray⟩ : ByteArray).size = 32 := hLl
      clear hL hc1 hB1 hB2 hG hown n1 n3 hr8 hA8
      have HSZ := Lib.hid hsz
      go_wp2_with (at_builtin; go_must (refine Lib.wpList_append_own_string _ rfl (.tmp 24) (.tmp 25) 27 9 rfl w.heap.size 5 i0 Tryd.underlying27 Tryd.underlying9 hi0 hz0 hz1 hz2 _ m8 _ rfl hown2 ⟨L.toArray⟩ rfl (by rw [HSZ.out]; have := HQ.out; unfold maxLen; omega) (by rw [HSZ.out]; have := HQ.out; omega) hB3.size ?_))
      intro v3 w3 hO3 hg3 _h3
      rw [strCells_of] at hO3
      have hB4 := hB3.grown hg3 hB3.size (fun k hk => (hown2.lt k hk).1)
      have hl9 := own_lenSl hO3
      have ho9b : w3.ownsRow w.heap.size 5 1 v3 (m8 + 32) (u8s (outL K U (k + 1))) := by
        rw [outL, u8s_append, ← HL.out]
        exact hO3
      clear hO3 hg3 _h3 hown2 hsz
      go_simp
      go_wp2_with fail
      have h1 := HM8.out
      refine ⟨⟨k + 1, m8 + 32, ⟨L.toArray⟩, by omega, .inr (by rw [Nat.add_sub_cancel]; omega), by go_num, ho9b, rfl, by rw [← HL.out], hB4⟩, ?_⟩
      simp only [lenSl] at hl9 ⊢
      omega
    · have hge : ¬ (m8 : Int) < (q : Int) := by omega
      have hcut := fun w1 => run_cut_h (P := Tryd.prog) Tryd.underlying27 (by kernel_rfl) (A := A8) (n := m8) (c := c8) (hi := q) (h := (q : Int)) rfl (by omega) w1
      have hrq : Rd wr A8 q (u8s (expandL K U q)) := by
        rw [← expandL_is K U (show q ≤ 32 * k by omega), ← u8s_take]
        exact hr8.take (by omega)
      have hcv := run_str (P := Tryd.prog) (c := c8) wr Tryd.underlying27 Tryd.underlying5 Tryd.underlying9 hrq
      clear hm8
      go_wp2_with fail
      go_ret
      exact ⟨rfl, hB⟩
end Go.Proofs.YtnmhfomnlnlflaaDoor
/- The walks of the reference's keys. No condition. -/
namespace Go.Proofs.YtnmhfomnlnlflaaDoor
open Go.RowKit
set_option maxRecDepth 100000 in
set_option maxHeartbeats 2000000 in
theorem refBlind_any (M nm : List UInt8) (hM : M.length = 32) (hn : nm.length ≤ 1000) (w : World) :
    Calls Tryd.prog 40 #[.string ⟨M.toArray⟩, .string ⟨nm.toArray⟩] w fun e w' => e = .returned (.string ⟨(blindL M nm).toArray⟩) ∧ Below w.heap.size w w' := by
  obtain ⟨m, hm⟩ : ∃ s : ByteArray, s = ⟨M.toArray⟩ := ⟨_, rfl⟩
  obtain ⟨n, hn2⟩ : ∃ s : ByteArray, s = ⟨nm.toArray⟩ := ⟨_, rfl⟩
  obtain ⟨x, hx⟩ : ∃ s : ByteArray, s = ⟨(expandL M useBlind 32).toArray⟩ := ⟨_, rfl⟩
  have HE : Hid (∀ w, Calls Tryd.prog 56 #[.string m, .string ⟨#[98, 108, 105, 110, 100]⟩, .int .i64 32] w fun e w' => e = .returned (.string x) ∧ Below w.heap.size w w') := by
    intro w
    rw [hm, hx]
    exact refExpand_any M useBlind 32 (by omega) (by decide) (by omega) w
  have HS : Hid (∀ w, Calls Tryd.prog 55 #[.string x, .string n] w fun e w' => e = .returned (.string ⟨(blindL M nm).toArray⟩) ∧ Below w.heap.size w w') := by
    intro w
    rw [hx, hn2]
    exact refHmac_any _ nm (by rw [expandL_length]; omega) (by omega) w
  rw [← hm, ← hn2]
  obtain ⟨r, hr⟩ : ∃ s : ByteArray, s = ⟨(blindL M nm).toArray⟩ := ⟨_, rfl⟩
  rw [← hr] at HS ⊢
  clear hm hn2 hx hr
  go_enter Tryd.func40, Tryd.ntmps40
  go_wp2_with fail
  refine (HE.out w).mono ?_
  rintro e w1 ⟨rfl, hB1⟩
  go_wp2_with fail
  refine (HS.out w1).mono ?_
  rintro e w2 ⟨rfl, hB2⟩
  go_wp2_with fail
  go_ret
  exact ⟨rfl, hB1.trans (hB2.mono hB1.size)⟩
set_option maxRecDepth 100000 in
set_option maxHeartbeats 2000000 in
theorem refSealK_any (M : List UInt8) (hM : M.length = 32) (e : Nat) (he : e ≤ 1048576) (w : World) :
    Calls Tryd.prog 44 #[.string ⟨M.toArray⟩, .int .i64 (e : Int)] w fun r w' => r = .returned (.string ⟨(sealKL M e).toArray⟩) ∧ Below w.heap.size w w' := by
  obtain ⟨m, hm⟩ : ∃ s : ByteArray, s = ⟨M.toArray⟩ := ⟨_, rfl⟩
  obtain ⟨p, hp⟩ : ∃ s : ByteArray, s = ⟨(beL 8 e).toArray⟩ := ⟨_, rfl⟩
  obtain ⟨r, hr⟩ : ∃ s : ByteArray, s = ⟨(sealKL M e).toArray⟩ := ⟨_, rfl⟩
  have hps : p.size = 8 := by rw [hp]; show (beL 8 e).length = 8; simp
  have HP : Hid (∀ w, Calls Tryd.prog 57 #[.int .u64 (e : Int), .int .i64 8, .bool true] w fun r w' => r = .returned (.string p) ∧ Below w.heap.size w w') := by
    intro w
    rw [hp]
    exact refPut_any e (by omega) 8 true w
  have HE : Hid (∀ w, Calls Tryd.prog 56 #[.string m, .string ((⟨#[115, 101, 97, 108]⟩ : ByteArray) ++ p), .int .i64 32] w fun e w' => e = .returned (.string r) ∧ Below w.heap.size w w') := by
    intro w
    rw [hm, hr, hp]
    have := refExpand_any M (useSeal ++ beL 8 e) 32 (by omega) (by simp [useSeal]) (by omega) w
    rw [← str_append] at this
    exact this
  have hei : (e : Int) ≤ 1048576 := by omega
  have n1 : ¬ 9223372036854775807 < 4 + p.size := by omega
  rw [← hm, ← hr]
  clear hm hp hr
  go_enter Tryd.func44, Tryd.ntmps44
  go_wp2_with fail
  refine (HP.out w).mono ?_
  rintro e w1 ⟨rfl, hB1⟩
  go_wp2_with fail
  refine (HE.out w1).mono ?_
  rintro e w2 ⟨rfl, hB2⟩
  go_wp2_with fail
  go_ret
  exact ⟨rfl, hB1.trans (hB2.mono hB1.size)⟩
set_option maxRecDepth 100000 in
set_option maxHeartbeats 2000000 in
theorem refNonce_any (c k : Nat) (hc : c ≤ 1000) (hk : k ≤ 4611686018427387904) (w : World) :
    Calls Tryd.prog 45 #[.int .i64 (c : Int), .int .i64 (k : Int)] w fun r w' => r = .returned (.string ⟨(nonceL c k).toArray⟩) ∧ Below w.heap.size w w' := by
  obtain ⟨p, hp⟩ : ∃ s : ByteArray, s = ⟨(beL 4 c).toArray⟩ := ⟨_, rfl⟩
  obtain ⟨q, hq⟩ : ∃ s : ByteArray, s = ⟨(beL 8 k).toArray⟩ := ⟨_, rfl⟩
  have hps : p.size = 4 := by rw [hp]; show (beL 4 c).length = 4; simp
  have hqs : q.size = 8 := by rw [hq]; show (beL 8 k).length = 8; simp
  have HP : Hid (∀ w, Calls Tryd.prog 57 #[.int .u64 (c : Int), .int .i64 4, .bool true] w fun r w' => r = .returned (.string p) ∧ Below w.heap.size w w') := by
    intro w
    rw [hp]
    exact refPut_any c (by omega) 4 true w
  have HQ : Hid (∀ w, Calls Tryd.prog 57 #[.int .u64 (k : Int), .int .i64 8, .bool true] w fun r w' => r = .returned (.string q) ∧ Below w.heap.size w w') := by
    intro w
    rw [hq]
    exact refPut_any k (by omega) 8 true w
  have HR : Hid (p ++ q = ⟨(nonceL c k).toArray⟩) := by
    show _ = _
    rw [hp, hq, str_append]
    rfl
  have hci : (c : Int) ≤ 1000 := by omega
  have hki : (k : Int) ≤ 4611686018427387904 := by omega
  have n1 : ¬ 9223372036854775807 < p.size + q.size := by omega
  clear hp hq
  go_enter Tryd.func45, Tryd.ntmps45
  go_wp2_with fail
  refine (HP.out w).mono ?_
  rintro e w1 ⟨rfl, hB1⟩
  go_wp2_with fail
  refine (HQ.out w1).mono ?_
  rintro e w2 ⟨rfl, hB2⟩
  go_wp2_with fail
  go_ret
  rw [HR.out]
  exact ⟨rfl, hB1.trans (hB2.mono hB1.size)⟩
end Go.Proofs.YtnmhfomnlnlflaaDoor
/- The walk of keys.Seal. No condition. -/
namespace Go.Proofs.YtnmhfomnlnlflaaDoor
open Go.RowKit
set_option maxRecDepth 100000 in
set_option maxHeartbeats 4000000 in
theorem sealK_no (M : List UInt8) (e : Int) (h : e < 1 ∨ 1048576 < e) (w : World) :
    Calls Tryd.prog 36 #[.agg (u8s M).toArray, .int .i64 e] w fun r w' => r = .returned (.tuple #[.agg (u8s (List.replicate 32 0)).toArray, .int .i64 1]) ∧ Below w.heap.size w w' := by
  have h4 : Arr ((w.alloc (.cells (u8s M).toArray 22)).alloc (.cells (u8s (List.replicate 32 0)).toArray 22)) (w.heap.size + 1) 22 (u8s (List.replicate 32 0)) := Arr.newAt (asz _ _) rfl
  have G0 : Gr w ((w.alloc (.cells (u8s M).toArray 22)).alloc (.cells (u8s (List.replicate 32 0)).toArray 22)) := (Gr.alloc _ _).trans (Gr.alloc _ _)
  by_cases h1 : e < 1
  · go_enter Tryd.func36, Tryd.ntmps36
    go_wp2_with (refine wpList_put h4 rfl 22 (.tmp 4) (.tmp 15) rfl (u8s (List.replicate 32 0)) rfl rfl rfl (infoU8_32 _ rfl) (u8s_oneCell _) ?_; intro w4 h44 hB4 _)
    refine bodyPost_ret (results_cell_tmp rfl _ _ (w.heap.size + 1) _ _ _ _ rfl h44 Tryd.underlying22 rfl (by kernel_rfl)) rfl ?_
    exact ⟨rfl, Below.trans G0 (hB4.mono (by omega))⟩
  · have g2 : 1048576 < e := by omega
    go_enter Tryd.func36, Tryd.ntmps36
    go_wp2_with (refine wpList_put h4 rfl 22 (.tmp 4) (.tmp 15) rfl (u8s (List.replicate 32 0)) rfl rfl rfl (infoU8_32 _ rfl) (u8s_oneCell _) ?_; intro w4 h44 hB4 _)
    refine bodyPost_ret (results_cell_tmp rfl _ _ (w.heap.size + 1) _ _ _ _ rfl h44 Tryd.underlying22 rfl (by kernel_rfl)) rfl ?_
    exact ⟨rfl, Below.trans G0 (hB4.mono (by omega))⟩
set_option maxRecDepth 100000 in
set_option maxHeartbeats 8000000 in
theorem sealK_any (M : List UInt8) (hM : M.length = 32) (e : Nat) (he1 : 1 ≤ e) (he2 : e ≤ 1048576) (w : World) (gw : Glob w) :
    Calls Tryd.prog 36 #[.agg (u8s M).toArray, .int .i64 (e : Int)] w fun r w' => r = .returned (.tuple #[.agg (u8s (sealKL M e)).toArray, .int .i64 0]) ∧ Below w.heap.size w w' := by
  obtain ⟨i0, hi0, hz0, hz1, hz2⟩ := info_parts Tryd.info5
  obtain ⟨X, hX⟩ : ∃ X, X = sealKL M e := ⟨_, rfl⟩
  have hXl : X.length = 32 := by rw [hX]; simp
  obtain ⟨us, hus⟩ : ∃ X, X = useSeal ++ beL 8 e := ⟨_, rfl⟩
  have husl : us.length = 12 := by rw [hus]; simp [useSeal]
  have HU : Hid (u8s useSeal ++ u8s (beL 8 e) = u8s us) := by
    show _ = _
    rw [hus, u8s_append]
  have HP8 : Hid (∀ w, Calls Tryd.prog 33 #[.int .u64 (e : Int), .int .i64 8] w fun r w' => ∃ v, r = .returned v ∧ w'.ownsRow w.heap.size 5 1 v 8 (u8s (beL 8 e)) ∧ Below w.heap.size w w') := fun w => putHigh_any e (by omega) 8 w
  have HE : Hid (∀ w g B d, 12 ≤ d → Rd w (some ⟨g, 0, none⟩) 32 (u8s M) → Rd w B 12 (u8s us) → Glob w → Calls Tryd.prog 31 #[.slice (some ⟨g, 0, none⟩) 32 32, .slice B 12 d, .int .i64 32] w fun r w' => ∃ g', r = .returned (.tuple #[.slice (some ⟨g', 0, none⟩) 32 32, .int .i64 0]) ∧ Rd w' (some ⟨g', 0, none⟩) 32 (u8s X) ∧ Below w.heap.size w w') := by
    intro w g B d hd h1 h2 h3
    rw [hX, sealKL, ← hus]
    refine (expand_row (some ⟨g, 0, none⟩) 32 32 M B 12 d us 32 (by omega) (by omega) (by omega) hd (by omega) w h1 (by simp) h2 h3).mono ?_
    rintro r w' ⟨A', he, hr, hb, hg⟩
    obtain ⟨g', rfl⟩ := hg (by omega)
    exact ⟨g', he, hr, hb⟩
  rw [← hX]
  clear hX hus
  have g1 : ¬ (e : Int) < 1 := by omega
  have g2' : ¬ (1048576 : Int) < (e : Int) := by omega
  have e20 : (e : Int) ≤ 1048576 := by omega
  have h2 : Arr ((w.alloc (.cells (u8s M).toArray 22)).alloc (.cells (u8s (List.replicate 32 0)).toArray 22)) w.heap.size 22 (u8s M) := Arr.alloc (Arr.newAt rfl rfl) _
  have h4 : Arr ((w.alloc (.cells (u8s M).toArray 22)).alloc (.cells (u8s (List.replicate 32 0)).toArray 22)) (w.heap.size + 1) 22 (u8s (List.replicate 32 0)) := Arr.newAt (asz _ _) rfl
  have G0 : Gr w ((w.alloc (.cells (u8s M).toArray 22)).alloc (.cells (u8s (List.replicate 32 0)).toArray 22)) := (Gr.alloc _ _).trans (Gr.alloc _ _)
  go_enter Tryd.func36, Tryd.ntmps36
  go_upto_region 1 with fail
  change Code.wp _ _ _ _ ((w.alloc (.cells (u8s M).toArray 22)).alloc (.cells (u8s (List.replicate 32 0)).toArray 22))
  generalize (w.alloc (.cells (u8s M).toArray 22)).alloc (.cells (u8s (List.replicate 32 0)).toArray 22) = w0 at h2 h4 G0 ⊢
  obtain ⟨g4, hg4⟩ : ∃ g, g = w.heap.size + 1 := ⟨_, rfl⟩
  rw [← hg4] at h4
  simp only [← hg4]
  have HG4 := Lib.hid hg4
  obtain ⟨g2, hg2⟩ : ∃ g, g = w.heap.size := ⟨_, rfl⟩
  rw [← hg2] at h2
  simp only [← hg2]
  have HG2 := Lib.hid hg2
  clear hg4 hg2
  have hcv := Lib.run_convert_bytes_const (P := Tryd.prog) w0 27 5 #[.int .u8 115, .int .u8 101, .int .u8 97, .int .u8 108] 4 4 Tryd.underlying27 Tryd.underlying5
  go_wp2_with fail
  refine (HP8.out _).mono ?_
  rintro r w1 ⟨v1, rfl, ho1, hB1⟩
  obtain ⟨A1, c1, rfl, _, _⟩ := own_form ho1
  have hr1 := Rd.of_own ho1
  have G1 : Gr w0 w1 := (Gr.alloc _ _).trans hB1
  have hu1 : Rd w1 (some ⟨w0.heap.size, 0, none⟩) 4 (u8s useSeal) := Rd.below (rd_made rfl _ _ _ 4 _ rfl rfl) hB1
  have hO : OwnG w1 w0.heap.size (some ⟨w0.heap.size, 0, none⟩) 4 4 (u8s useSeal) :=
    ⟨Nat.le_refl _, (by unfold maxLen; omega), (fun h => by (cases h)), hu1, (fun ad h => by injection h with h; subst h; exact ⟨rfl, Nat.le_refl _⟩), (fun ad _ j h1 h2 => by omega)⟩
  clear hcv ho1 hB1
  go_wp2_with (at_builtin; go_must (refine wpList_appG rfl (.tmp 17) (.tmp 20) 27 27 5 rfl i0 (.int .u8 0) Tryd.underlying27 hi0 hz0 hz1 (by omega) rfl rfl hO _ rfl (Src.ofRd Tryd.underlying27 hr1 (u8s_oneCell _)) (by omega) G1.size ?_))
  intro A3 c3 w3 hA3
  have hr3 : Rd w3 A3 12 (u8s us) := by
    have := hA3.own.rd
    rwa [HU.out] at this
  have hc3 := hA3.own.le
  have G3 : Gr w0 w3 := Below.trans G1 hA3.below
  have hr2 := (h2.gr G3).rdAll hM
  have h43 := h4.gr G3
  have gw3 := (gw.gr G0).gr G3
  have hB3 := Below.trans G0 (Below.mono G3 G0.size)
  have hcut := fun w => run_cutAll (P := Tryd.prog) Tryd.underlying22 (by kernel_rfl) g2 w
  clear hA3 hO hu1 G1 G3 G0 h2 h4 hr1
  go_simp
  go_wp2_with fail
  refine (HE.out w3 g2 A3 c3 hc3 hr2 hr3 gw3).mono ?_
  rintro r w5 ⟨g7, rfl, hr7, hB5⟩
  have h45 := h43.gr hB5
  have hB6 := hB3.trans (hB5.mono hB3.size)
  have hrg : w5.rangeAt g7 0 (u8s X) := fun j v hj => by
    obtain ⟨ad, e1, hc⟩ := hr7.2 j v hj
    injection e1 with e1
    subst e1
    rw [add_row] at hc
    exact hc
  have ha := fun w => run_arrAt (P := Tryd.prog) Tryd.underlying22 (A := some ⟨g7, 0, none⟩) (c := 32) (Nat.le_refl 32) w
  clear h43 hB3 hB5 hcut hr2 hr3 gw3
  go_wp2_with first
    | (refine wpList_load_mid rfl 22 (.tmp 33) rfl g7 0 rfl (u8s X) _ hrg Tryd.underlying22 rfl (infoU8_32 X hXl) ?_)
    | (refine wpList_put h45 rfl 22 (.tmp 4) (.tmp 34) rfl (u8s X) rfl rfl (by simp [hXl]) (infoU8_32 X hXl) (u8s_oneCell _) ?_; intro w6 h46 hB7 _)
  refine bodyPost_ret (results_cell_tmp rfl _ _ g4 _ _ _ _ rfl h46 Tryd.underlying22 rfl (by have := infoU8_32 X hXl; simpa using this)) rfl ?_
  have h9 : w.heap.size ≤ g4 := by have := HG4.out; omega
  exact ⟨rfl, hB6.trans (hB7.mono h9)⟩
set_option maxRecDepth 100000 in
set_option maxHeartbeats 8000000 in
theorem blind_any (M nm : List UInt8) (hM : M.length = 32) (A : Option Addr) (n c : Nat) (hn1 : 1 ≤ n) (hn2 : n ≤ 64) (hnc : n ≤ c) (w : World) (hr : Rd w A n (u8s nm)) (gw : Glob w) :
    Calls Tryd.prog 21 #[.agg (u8s M).toArray, .slice A n c] w fun r w' => r = .returned (.tuple #[.agg (u8s (blindL M nm)).toArray, .int .i64 0]) ∧ Below w.heap.size w w' := by
  have hnl : nm.length = n := by simpa using hr.1
  obtain ⟨X, hX⟩ : ∃ X, X = blindL M nm := ⟨_, rfl⟩
  have hXl : X.length = 32 := by rw [hX]; simp
  obtain ⟨D, hD⟩ : ∃ X, X = expandL M useBlind 32 := ⟨_, rfl⟩
  have HE : Hid (∀ w g B d, 5 ≤ d → Rd w (some ⟨g, 0, none⟩) 32 (u8s M) → Rd w B 5 (u8s useBlind) → Glob w → Calls Tryd.prog 31 #[.slice (some ⟨g, 0, none⟩) 32 32, .slice B 5 d, .int .i64 32] w fun r w' => ∃ g', r = .returned (.tuple #[.slice (some ⟨g', 0, none⟩) 32 32, .int .i64 0]) ∧ Rd w' (some ⟨g', 0, none⟩) 32 (u8s D) ∧ Below w.heap.size w w') := by
    intro w g B d hd h1 h2 h3
    rw [hD]
    refine (expand_row (some ⟨g, 0, none⟩) 32 32 M B 5 d useBlind 32 (by omega) (by omega) (by omega) hd (by omega) w h1 (by simp) h2 h3).mono ?_
    rintro r w' ⟨A', he, hr, hb, hg⟩
    obtain ⟨g', rfl⟩ := hg (by omega)
    exact ⟨g', he, hr, hb⟩
  have HS : Hid (∀ w g B ps, Rd w (some ⟨g, 0, none⟩) 32 (u8s D) → Parts w B 1 ps → allP ps = nm → Glob w → Calls Tryd.prog 32 #[.slice (some ⟨g, 0, none⟩) 32 32, .slice B 1 1] w fun e w' => e = .returned (.agg (u8s X).toArray) ∧ Below w.heap.size w w') := by
    intro w g B ps h1 h2 h3 h4
    rw [hX, blindL, ← hD]
    exact hmacSum_any (some ⟨g, 0, none⟩) 32 32 D B 1 1 ps nm (by omega) (by omega) (by omega) h3 (by omega) w h1 (by simp) h2 h4
  rw [← hX]
  clear hX hD
  have g1 : ¬ (n : Int) < 1 := by omega
  have g2' : ¬ (64 : Int) < (n : Int) := by omega
  have h2 : Arr ((w.alloc (.cells (u8s M).toArray 22)).alloc (.cells (u8s (List.replicate 32 0)).toArray 31)) w.heap.size 22 (u8s M) := Arr.alloc (Arr.newAt rfl rfl) _
  have h4 : Arr ((w.alloc (.cells (u8s M).toArray 22)).alloc (.cells (u8s (List.replicate 32 0)).toArray 31)) (w.heap.size + 1) 31 (u8s (List.replicate 32 0)) := Arr.newAt (asz _ _) rfl
  have G0 : Gr w ((w.alloc (.cells (u8s M).toArray 22)).alloc (.cells (u8s (List.replicate 32 0)).toArray 31)) := (Gr.alloc _ _).trans (Gr.alloc _ _)
  go_enter Tryd.func21, Tryd.ntmps21
  go_upto_region 1 with fail
  change Code.wp _ _ _ _ ((w.alloc (.cells (u8s M).toArray 22)).alloc (.cells (u8s (List.replicate 32 0)).toArray 31))
  generalize (w.alloc (.cells (u8s M).toArray 22)).alloc (.cells (u8s (List.replicate 32 0)).toArray 31) = w0 at h2 h4 G0 ⊢
  obtain ⟨g4, hg4⟩ : ∃ g, g = w.heap.size + 1 := ⟨_, rfl⟩
  rw [← hg4] at h4
  simp only [← hg4]
  have HG4 := Lib.hid hg4
  obtain ⟨g2, hg2⟩ : ∃ g, g = w.heap.size := ⟨_, rfl⟩
  rw [← hg2] at h2
  simp only [← hg2]
  have HG2 := Lib.hid hg2
  clear hg4 hg2
  have hr0 := G0.rd hr
  have gw0 := gw.gr G0
  have hcv := Lib.run_convert_bytes_const (P := Tryd.prog) w0 27 5 #[.int .u8 98, .int .u8 108, .int .u8 105, .int .u8 110, .int .u8 100] 5 5 Tryd.underlying27 Tryd.underlying5
  have hcut := fun w => run_cutAll (P := Tryd.prog) Tryd.underlying22 (by kernel_rfl) g2 w
  go_wp2_with fail
  refine (HE.out _ g2 (some ⟨w0.heap.size, 0, none⟩) 5 (by omega) ((h2.gr (Gr.alloc _ _)).rdAll hM) (rd_made rfl _ _ _ 5 _ rfl rfl) (gw0.gr (Gr.alloc _ _))).mono ?_
  rintro r w1 ⟨g7, rfl, hr7, hB1⟩
  have G1 : Gr w0 w1 := Gr.trans (Gr.alloc _ _) hB1
  have hr1 := G1.rd hr0
  have gw1 := gw0.gr G1
  have h41 := h4.gr G1
  have hB3 := Below.trans G0 (Below.mono G1 G0.size)
  clear hcv hcut hB1 h2 h4 hr hr0 gw0 gw G1
  go_wp2_with fail
  refine (HS.out _ g7 _ [⟨A, n, c, nm⟩] ((Gr.alloc w1 _).rd hr7) (parts1 rfl 27 ⟨A, n, c, nm⟩ hr1 hnc) (by simp [allP]) (gw1.gr (Gr.alloc _ _))).mono ?_
  rintro r w2 ⟨rfl, hB2⟩
  have G2 : Gr w1 w2 := Gr.trans (Gr.alloc _ _) hB2
  have h42 := h41.gr G2
  have hB4 := hB3.trans (Below.mono G2 hB3.size)
  clear hB2 hr1 gw1 h41 hr7 hB3 G2
  go_wp2_with (refine wpList_put h42 rfl 31 (.tmp 4) (.tmp 31) rfl (u8s X) rfl rfl (by simp [hXl]) (infoBl X hXl) (u8s_oneCell _) ?_; intro w6 h46 hB7 _)
  refine bodyPost_ret (results_cell_tmp rfl _ _ g4 _ _ _ _ rfl h46 Tryd.underlying31 rfl (by have := infoBl X hXl; simpa using this)) rfl ?_
  have h9 : w.heap.size ≤ g4 := by have := HG4.out; omega
  exact ⟨rfl, hB4.trans (hB7.mono h9)⟩
end Go.Proofs.YtnmhfomnlnlflaaDoor
