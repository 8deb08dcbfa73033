/- Texts of one proof, laid as one: part 1. No condition. -/
import Derived.WalkKit
import Derived.WalkSpells
import Derived.WalkLawsBesides
import Derived.Deep.AppendLies
import Derived.Deep.Draws
import Derived.Lib.MinMax
import Derived.Lib.Hide
import Derived.Laws.IdiomStrings
import Derived.Orders
import Derived.RegionTactic
import Derived.Deep.MidRow
import Derived.Laws.BitsAllLaws
import Derived.BigQuiet
import Derived.Deep.RegionHeld3
import Derived.Laws.OwnMore
import Derived.Laws.CopyOwn
import Derived.Test.YtjpphldojbfpfaaGreatDoorRows
namespace Go.Proofs.YtjpphldojbfpfaaGreatDoor
open Go.RowKit
def rotl (x : UInt32) (k : Nat) : UInt32 := ⟨x.toBitVec.rotateLeft k⟩
def leftU (x : UInt32) (n : Int) : UInt32 := rotl x (n % 32).toNat
theorem rotl_toNat (x : UInt32) (k : Nat) (hk : k < 32) : (rotl x k).toNat = (x.toNat * 2 ^ k % 4294967296) ||| (x.toNat / 2 ^ (32 - k)) := by
  have hx := x.toNat_lt; show ((x.toBitVec.rotateLeft k).toNat) = _
  simp only [BitVec.rotateLeft, BitVec.rotateLeftAux, Nat.mod_eq_of_lt hk, BitVec.toNat_or, BitVec.toNat_shiftLeft, BitVec.toNat_ushiftRight,
    Nat.shiftLeft_eq, Nat.shiftRight_eq_div_pow]
  rfl
theorem or_rot (x : UInt32) (k : Nat) (hk : k < 32) :
    bits .or .u32 ((x.toNat : Int) * 2 ^ k % 4294967296) ((x.toNat : Int) / 2 ^ (32 - k)) = ((rotl x k).toNat : Int) := by
  have hx := x.toNat_lt; have e1 : (x.toNat : Int) * 2 ^ k % 4294967296 = ((x.toNat * 2 ^ k % 4294967296 : Nat) : Int) := by simp
  have e2 : (x.toNat : Int) / 2 ^ (32 - k) = ((x.toNat / 2 ^ (32 - k) : Nat) : Int) := by simp
  rw [e1, e2, u32_or_nat _ _ (by omega) (Nat.lt_of_le_of_lt (Nat.div_le_self _ _) hx), rotl_toNat x k hk]
def u8s (l : List UInt8) : List Value := l.map fun c => .int .u8 (c.toNat : Int)
@[simp] theorem u8s_length (l : List UInt8) : (u8s l).length = l.length := by simp [u8s]
@[simp] theorem u8s_nil : u8s [] = [] := rfl
theorem u8s_append (a b : List UInt8) : u8s (a ++ b) = u8s a ++ u8s b := by simp [u8s]
theorem u8s_one (c : UInt8) : u8s [c] = [.int .u8 (c.toNat : Int)] := rfl
theorem u8s_oneCell (l : List UInt8) : ∀ u ∈ u8s l, u.oneCell' = true := by
  intro u hu; simp [u8s] at hu; obtain ⟨c, _, rfl⟩ := hu; rfl
def leBytes : Nat → Nat → List UInt8
  | 0, _ => []
  | k + 1, x => UInt8.ofNat x :: leBytes k (x / 256)
@[simp] theorem leBytes_length (k x : Nat) : (leBytes k x).length = k := by
  induction k generalizing x with
  | zero => rfl
  | succ k ih => simp [leBytes, ih]
theorem leBytes_snoc (k x : Nat) : leBytes (k + 1) x = leBytes k x ++ [UInt8.ofNat (x / 256 ^ k)] := by
  induction k generalizing x with
  | zero => simp [leBytes]
  | succ k ih =>
    rw [leBytes, ih (x / 256), leBytes, List.cons_append, Nat.div_div_eq_div_mul, Nat.pow_succ, Nat.mul_comm 256]
def leNat : List UInt8 → Nat
  | [] => 0
  | c :: r => c.toNat + 256 * leNat r
def beNat (l : List UInt8) : Nat := leNat l.reverse
theorem leNat_lt (l : List UInt8) : leNat l < 256 ^ l.length := by
  induction l with
  | nil => simp [leNat]
  | cons c r ih =>
    have hc := c.toNat_lt; simp only [leNat, List.length_cons, Nat.pow_succ]; omega
theorem beNat_snoc (l : List UInt8) (c : UInt8) : beNat (l ++ [c]) = beNat l * 256 + c.toNat := by
  unfold beNat; rw [List.reverse_append, List.reverse_singleton, List.singleton_append, leNat]; omega
theorem beNat_lt (l : List UInt8) : beNat l < 256 ^ l.length := by
  have := leNat_lt l.reverse
  rwa [List.length_reverse] at this
theorem leNat_leBytes (k x : Nat) : leNat (leBytes k x) = x % 256 ^ k := by
  induction k generalizing x with
  | zero => simp [leBytes, leNat, Nat.mod_one]
  | succ k ih =>
    rw [leBytes, leNat, ih, Nat.pow_succ, Nat.mul_comm (256 ^ k) 256, Nat.mod_mul, UInt8.toNat_ofNat']
theorem beNat_leBytes (k x : Nat) : beNat (leBytes k x).reverse = x % 256 ^ k := by
  unfold beNat; rw [List.reverse_reverse, leNat_leBytes]
theorem take_snoc_ {α : Type} (l : List α) (k : Nat) (c : α) (h : l[k]? = some c) : l.take (k + 1) = l.take k ++ [c] := by
  rw [List.take_add_one, h]; rfl
theorem or_add_ (x c k : Nat) (hx : x < 2 ^ k) : x ||| (2 ^ k * c) = x + 2 ^ k * c := by
  rw [Nat.or_comm, ← Nat.two_pow_add_eq_or_of_lt hx, Nat.add_comm]
end Go.Proofs.YtjpphldojbfpfaaGreatDoor
namespace Go.Proofs.YtjpphldojbfpfaaGreatDoor
open Go.RowKit
theorem add_block (a : Addr) (n : Nat) : (a.add n).block = a.block := by unfold Addr.add; split <;> rfl
theorem add_zero_ (a : Addr) : a.add 0 = a := by unfold Addr.add; simp
theorem add_add_ (a : Addr) (i j : Nat) : (a.add i).add j = a.add (i + j) := by
  unfold Addr.add
  by_cases hi : i = 0 <;> by_cases hj : j = 0 <;> simp [hi, hj, Nat.add_assoc]
theorem add_row (g o i : Nat) : (⟨g, o, none⟩ : Addr).add i = ⟨g, o + i, none⟩ := by unfold Addr.add; split <;> simp_all
theorem lt_of_cell {w : World} {a : Addr} {v : Value} (h : w.cell? a = some v) : a.block < w.heap.size := block_lt_of_cell h
def Rd (w : World) (A : Option Addr) (n : Nat) (xs : List Value) : Prop :=
  xs.length = n ∧ ∀ i u, xs[i]? = some u → ∃ ad, A = some ad ∧ w.cell? (ad.add i) = some u
section
variable {w w' : World} {A : Option Addr} {n : Nat} {xs : List Value}
theorem Rd.nil (w : World) (A : Option Addr) : Rd w A 0 [] := ⟨rfl, fun i u h => by simp at h⟩
theorem Rd.at_ {k : Nat} (h : Rd w A n xs) (hk : k < n) : ∃ ad u, A = some ad ∧ xs[k]? = some u ∧ w.cell? (ad.add k) = some u := by
  have hl : k < xs.length := by have := h.1; omega
  obtain ⟨ad, e, hc⟩ := h.2 k _ (List.getElem?_eq_getElem hl); exact ⟨ad, xs[k], e, List.getElem?_eq_getElem hl, hc⟩
theorem Rd.keep (h : Rd w A n xs) (hk : ∀ p : Addr, p.block < w.heap.size → (∀ ad, A = some ad → p.block = ad.block) → w'.cell? p = w.cell? p) : Rd w' A n xs :=
  ⟨h.1, fun i u hu => by
    obtain ⟨ad, e, hc⟩ := h.2 i u hu; refine ⟨ad, e, (hk _ (lt_of_cell hc) fun ad' e' => ?_).trans hc⟩; rw [e] at e'; injection e' with e'; rw [e', add_block]⟩
theorem Rd.below (h : Rd w A n xs) (hb : Below w.heap.size w w') : Rd w' A n xs := h.keep fun _ hp _ => hb.cell hp
theorem Rd.alloc (h : Rd w A n xs) (o : Obj) : Rd (w.alloc o) A n xs := h.keep fun p hp _ => World.cell?_alloc_lt w o p hp
theorem Rd.cut (h : Rd w A n xs) {k : Nat} {cap : Nat} (hk : k ≤ n) (hc : n ≤ cap) : Rd w (if cap = k then A else A.map (·.add k)) (n - k) (xs.drop k) := by
  refine ⟨by rw [List.length_drop, h.1], fun i u hu => ?_⟩; rw [List.getElem?_drop] at hu; obtain ⟨ad, e, hcell⟩ := h.2 _ u hu
  have hlt : k + i < xs.length := by
    rcases Nat.lt_or_ge (k + i) xs.length with h' | h'
    · exact h'
    · rw [List.getElem?_eq_none h'] at hu; cases hu
  have := h.1; rw [if_neg (by omega), e]; exact ⟨ad.add k, rfl, by rw [add_add_]; exact hcell⟩
theorem Rd.take (h : Rd w A n xs) {k : Nat} (hk : k ≤ n) : Rd w A k (xs.take k) := by
  refine ⟨by rw [List.length_take, h.1]; omega, fun i u hu => ?_⟩; refine h.2 i u ?_; rw [List.getElem?_take] at hu; split at hu
  · exact hu
  · cases hu
theorem Rd.of_own {base : Nat} {e : TypeId} {c : Nat} (h : w.ownsRow base e 1 (.slice A n c) n xs) : Rd w A n xs := by
  refine ⟨by simpa using h.1, fun i u hu => ?_⟩
  have hlt : i < xs.length := by
    rcases Nat.lt_or_ge i xs.length with h' | h'
    · exact h'
    · rw [List.getElem?_eq_none h'] at hu; cases hu
  have hn : 0 < n := by have := h.1; omega
  obtain ⟨g, cap, hv, _, _⟩ := h.form hn; have hA : A = some ⟨g, 0, none⟩ := by injection hv
  subst hA; exact ⟨_, rfl, h.cells (g := g) rfl i u hu⟩
theorem Rd.of_row {g : Nat} {t : TypeId} {fr : Nat × Nat} {cs : Array Value} (hg : w.heap[g]? = some (.cells cs t fr)) (lo k : Nat) (hk : lo + k ≤ cs.size) :
    Rd w (some ⟨g, lo, none⟩) k ((cs.toList.drop lo).take k) := by
  refine ⟨by simp; omega, fun i u hu => ⟨_, rfl, ?_⟩⟩; rw [add_row, cell_of_row w g _ cs t fr hg]; rw [List.getElem?_take] at hu; split at hu
  · rw [List.getElem?_drop] at hu; simpa using hu
  · cases hu
end
theorem grownBy_trans {a b c : World} {row : Option Nat} (h : a.grownBy b row) (k : b.grownBy c row) : a.grownBy c row :=
  ⟨k.os.trans h.os, k.tape.trans h.tape, k.output.trans h.output, Nat.le_trans h.size k.size, fun i hi hne => (k.block i (Nat.lt_of_lt_of_le hi h.size) hne).trans (h.block i hi hne)⟩
theorem grownBy_drew {a b : World} {row : Option Nat} (h : a.grownBy b row) : a.grownBy b.drew row := ⟨h.os, h.tape, h.output, h.size, h.block⟩
def Gr (w w' : World) : Prop := Below w.heap.size w w'
theorem Gr.refl (w : World) : Gr w w := Below.refl _ _
theorem Gr.trans {a b c : World} (h : Gr a b) (k : Gr b c) : Gr a c := Below.trans h (Below.mono k h.size)
theorem Gr.rd {w w' : World} {A : Option Addr} {n : Nat} {xs : List Value} (h : Gr w w') (k : Rd w A n xs) : Rd w' A n xs := k.below h
theorem Gr.own {w w' : World} {base : Nat} {e : TypeId} {size n : Nat} {v : Value} {xs : List Value} (h : Gr w w') (k : w.ownsRow base e size v n xs) : w'.ownsRow base e size v n xs := by
  refine ⟨k.1, k.2.imp id fun ⟨g, cap, cur, h1, h2, h3, h4⟩ => ⟨g, cap, cur, h1, h2, ?_, h4⟩⟩; refine (h.block g ?_).trans h3; rcases Nat.lt_or_ge g w.heap.size with h' | h'
  · exact h'
  · rw [Array.getElem?_eq_none h'] at h3; cases h3
theorem Gr.alloc (w : World) (o : Obj) : Gr w (w.alloc o) := (Below.refl _ _).alloc (Nat.le_refl _) o
theorem Gr.drew (w : World) : Gr w w.drew := (Below.refl _ _).drew
theorem own_form {w : World} {base : Nat} {e : TypeId} {size n : Nat} {v : Value} {xs : List Value} (h : w.ownsRow base e size v n xs) :
    ∃ A c, v = .slice A n c ∧ n ≤ c ∧ (∀ ad, A = some ad → base ≤ ad.block ∧ ad.block < w.heap.size ∧ v.ownBlock = some ad.block) := by
  rcases h.2 with ⟨rfl, rfl⟩ | ⟨g, cap, cur, rfl, hb, hg, hc, _⟩
  · exact ⟨none, 0, rfl, Nat.le_refl _, fun ad h => by cases h⟩
  · refine ⟨_, cap, rfl, hc, fun ad h => ?_⟩; injection h with h; subst h
    refine ⟨hb, ?_, rfl⟩; rcases Nat.lt_or_ge g w.heap.size with h' | h'
    · exact h'
    · rw [Array.getElem?_eq_none h'] at hg; cases hg
theorem u8s_take (l : List UInt8) (k : Nat) : (u8s l).take k = u8s (l.take k) := by simp [u8s, List.map_take]
theorem u8s_drop (l : List UInt8) (k : Nat) : (u8s l).drop k = u8s (l.drop k) := by simp [u8s, List.map_drop]
theorem own_at {w : World} {base : Nat} {e : TypeId} {n : Nat} {v : Value} {xs : List Value} (h : w.ownsRow base e 1 v n xs) (hn : 0 < n) :
    ∃ g c, v = .slice (some ⟨g, 0, none⟩) n c ∧ n ≤ c ∧ base ≤ g ∧ g < w.heap.size ∧ (∀ lo k, lo + k ≤ n → Rd w (some ⟨g, lo, none⟩) k ((xs.drop lo).take k)) := by
  obtain ⟨g, c, rfl, hb, hl⟩ := h.form hn; obtain ⟨A, c', e1, hc, _⟩ := own_form h; obtain rfl : c = c' := by injection e1
  refine ⟨g, c, rfl, hc, hb, hl, fun lo k hk => ?_⟩; have hlen : xs.length = n := by simpa using h.1
  refine ⟨by simp; omega, fun i u hu => ⟨_, rfl, ?_⟩⟩; rw [List.getElem?_take] at hu; split at hu
  · rw [List.getElem?_drop] at hu; have := h.cells (g := g) rfl (lo + i) u hu; rw [add_row] at this ⊢; simpa using this
  · cases hu
section
variable {P : Program} (w : World)
theorem run_app (base : Nat) (t ty e : TypeId) (i : TypeInfo) (z : Value) (bytes : Nat) (ht : P.underlying t = some (.slice e)) (hi : P.info? e = some i) (hz : i.zero = some z)
    (hsize : i.size = 1) (hby : i.bytes = bytes) (hzs : z.cells.size = 1)
    (v : Value) (n : Nat) (xs : List Value) (hown : w.ownsRow base e 1 v n xs)
    (A : Option Addr) (m c : Nat) (news : List Value) (hr : Rd w A m news) (h1 : ∀ u ∈ news, u.oneCell' = true)
    (hbytes : (n + m) * bytes ≤ 140737488355328) (h63 : n + m ≤ maxLen) (hbase : base ≤ w.heap.size) :
    ∃ v' w', (Builtin.append_ #[t, t] ty #[v, .slice A m c]).run P w = .ok v' w' ∧ w'.ownsRow base e 1 v' (n + m) (xs ++ news) ∧ w.grownBy w' v.ownBlock ∧
      (v'.ownBlock = v.ownBlock ∨ ∃ g, v'.ownBlock = some g ∧ w.heap.size ≤ g) := by
  rcases Nat.eq_zero_or_pos m with h0 | h0
  · subst h0; have hn : news = [] := List.eq_nil_of_length_eq_zero hr.1; subst hn; rcases A with _ | ad
    · have e0 : (Builtin.append_ #[t, t] ty #[v, .slice none 0 c]).run P w = .ok v w := by
        rcases hown.2 with ⟨rfl, rfl⟩ | ⟨g, cap, cur, rfl, _, _, hnc, _⟩
        · simp [Builtin.append_, run_underlying ht, sizeOf, typeInfo, hi, Builtin.lenOf, Builtin.firstCells]
        · simp [Builtin.append_, run_underlying ht, sizeOf, typeInfo, hi, Builtin.lenOf, Builtin.firstCells, hnc, storeCells]
      exact ⟨v, w, e0, by simpa using hown, World.grownBy.refl w _, .inl rfl⟩
    · obtain ⟨v', w', hrun, h2, h3, _, h5⟩ := run_append_own_at (P := P) w base t ty e i z 1 bytes ht hi hz hsize hby hzs (by omega) v n xs hown ad 0 c [] rfl (fun j u h => by simp at h) h1 h63 hbytes hbase; exact ⟨v', w', hrun, h2, h3, h5.imp id fun h => ⟨_, h, Nat.le_refl _⟩⟩
  · obtain ⟨ad, _, rfl, _, _⟩ := hr.at_ h0
    obtain ⟨v', w', hrun, h2, h3, _, h5⟩ := run_append_own_at (P := P) w base t ty e i z 1 bytes ht hi hz hsize hby hzs (by omega) v n xs hown ad m c news (by simpa using hr.1)
      (fun j u hu => by obtain ⟨ad', e, hc⟩ := hr.2 j u hu; injection e with e; subst e; exact hc) h1 h63 hbytes hbase
    exact ⟨v', w', hrun, h2, h3, h5.imp id fun h => ⟨_, h, Nat.le_refl _⟩⟩
structure Apped (base : Nat) (e : TypeId) (w w' : World) (v v' : Value) (n : Nat) (xs : List Value) : Prop where
  own : w'.ownsRow base e 1 v' n xs
  grown : w.grownBy w' v.ownBlock
  lies : v'.ownBlock = v.ownBlock ∨ ∃ g, v'.ownBlock = some g ∧ w.heap.size ≤ g
theorem Apped.below {w w' : World} {base : Nat} {e : TypeId} {v v' : Value} {n m : Nat} {xs ys : List Value} (h : Apped base e w w' v v' n xs) (ho : w.ownsRow base e 1 v m ys) (hb : base ≤ w.heap.size) : Below base w w' :=
  (Below.refl base w).grown h.grown hb (fun k hk => (ho.lt k hk).1)
theorem wp_app {o : Oper} {a : Act} {K : Act → World → Prop} {Q : Exit → Act → World → Prop} (s x : Operand) (t : TypeId)
    (ho : o.op = .call { callee := .builtin .append, args := #[s, x], argTypes := #[t, t] })
    (base : Nat) (e : TypeId) (i : TypeInfo) (z : Value) (bytes : Nat) (ht : P.underlying t = some (.slice e)) (hi : P.info? e = some i) (hz : i.zero = some z)
    (hsize : i.size = 1) (hby : i.bytes = bytes) (hzs : z.cells.size = 1)
    (v : Value) (n : Nat) (xs : List Value) (hs : a.eval s = v) (hown : w.ownsRow base e 1 v n xs)
    (A : Option Addr) (m c : Nat) (news : List Value) (hx : a.eval x = .slice A m c) (hr : Rd w A m news) (h1 : ∀ u ∈ news, u.oneCell' = true)
    (hbytes : (n + m) * bytes ≤ 140737488355328) (h63 : n + m ≤ maxLen) (hbase : base ≤ w.heap.size)
    (h : ∀ v' w', Apped base e w w' v v' (n + m) (xs ++ news) → K (a.put o.dst v') w') : o.wp P a w K Q := by
  obtain ⟨v', w', hrun, h2, h3, h4⟩ := run_app (P := P) w base t o.type e i z bytes ht hi hz hsize hby hzs v n xs hown A m c news hr h1 hbytes h63 hbase; unfold Oper.wp execOp; simp only [ho, resolve, invoke, builtin, Sem.run_bind, Sem.run_pure, Result.andThen_ok, List.map_toArray, List.map_cons, List.map_nil, hs, hx, hrun]; exact h v' w' ⟨h2, h3, h4⟩
theorem wpList_app {ops : Array Oper} {rest : List Oper} {o : Oper} {a : Act} {Q : Exit → Act → World → Prop} (hgd : o.guard = none) (s x : Operand) (t : TypeId)
    (ho : o.op = .call { callee := .builtin .append, args := #[s, x], argTypes := #[t, t] })
    (base : Nat) (e : TypeId) (i : TypeInfo) (z : Value) (bytes : Nat) (ht : P.underlying t = some (.slice e)) (hi : P.info? e = some i) (hz : i.zero = some z)
    (hsize : i.size = 1) (hby : i.bytes = bytes) (hzs : z.cells.size = 1)
    (v : Value) (n : Nat) (xs : List Value) (hs : a.eval s = v) (hown : w.ownsRow base e 1 v n xs)
    (A : Option Addr) (m c : Nat) (news : List Value) (hx : a.eval x = .slice A m c) (hr : Rd w A m news) (h1 : ∀ u ∈ news, u.oneCell' = true)
    (hbytes : (n + m) * bytes ≤ 140737488355328) (h63 : n + m ≤ maxLen) (hbase : base ≤ w.heap.size)
    (h : ∀ v' w', Apped base e w w' v v' (n + m) (xs ++ news) → wpList P ops Q rest (a.put o.dst v') w') : wpList P ops Q (o :: rest) a w :=
  wpList_plain hgd fun _ hK => wp_app w s x t ho base e i z bytes ht hi hz hsize hby hzs v n xs hs hown A m c news hx hr h1 hbytes h63 hbase fun v' w' h2 => hK _ _ (h v' w' h2)
theorem wpList_app1 {ops : Array Oper} {rest : List Oper} {o : Oper} {a : Act} {Q : Exit → Act → World → Prop} (hgd : o.guard = none) (s x : Operand) (t : TypeId)
    (ho : o.op = .call { callee := .builtin .append, args := #[s, x], argTypes := #[t, t] })
    (base : Nat) (e : TypeId) (i : TypeInfo) (z : Value) (bytes : Nat) (ht : P.underlying t = some (.slice e)) (hi : P.info? e = some i) (hz : i.zero = some z)
    (hsize : i.size = 1) (hby : i.bytes = bytes) (hzs : z.cells.size = 1)
    (v : Value) (n : Nat) (xs : List Value) (hs : a.eval s = v) (hown : w.ownsRow base e 1 v n xs)
    (y u : Value) (hx : a.eval x = .slice (some ⟨w.heap.size, 0, none⟩) 1 1) (hy : y = u) (h1 : u.oneCell' = true)
    (hbytes : (n + 1) * bytes ≤ 140737488355328) (h63 : n + 1 ≤ maxLen) (hbase : base ≤ w.heap.size)
    (h : ∀ v' w', Apped base e w w' v v' (n + 1) (xs ++ [u]) → wpList P ops Q rest (a.put o.dst v') w') : wpList P ops Q (o :: rest) a (w.alloc (.cells #[y] e)) := by
  subst hy
  refine wpList_app (w.alloc (.cells #[y] e)) hgd s x t ho base e i z bytes ht hi hz hsize hby hzs v n xs hs (hown.alloc _) _ 1 1 [y] hx
    ⟨rfl, fun j u hj => ⟨_, rfl, cell_one_new w y e j u hj⟩⟩ (by simpa using h1) hbytes h63 (by simp; omega) fun v' w' hA => h v' w' ⟨hA.own, ?_, ?_⟩
  · have h2 := hA.grown; exact ⟨h2.os, h2.tape, h2.output, by have := h2.size; simp at this; omega, fun k hk hne => (h2.block k (by simp; omega) hne).trans (Below.heap_alloc w _ k hk)⟩
  · rcases hA.lies with e1 | ⟨g, e1, hg⟩
    · exact .inl e1
    · exact .inr ⟨g, e1, by simp at hg; omega⟩
theorem wp_clip {o : Oper} {a : Act} {K : Act → World → Prop} {Q : Exit → Act → World → Prop} (s x : Operand) (t : TypeId)
    (ho : o.op = .call { callee := .builtin .append, args := #[s, x], argTypes := #[t, t] })
    (e : TypeId) (i : TypeInfo) (z : Value) (ht : P.underlying t = some (.slice e)) (hi : P.info? e = some i) (hz : i.zero = some z)
    (hsize : i.size = 1) (hby : i.bytes = 1) (hzs : z.cells.size = 1) (H : Nat) (hH : w.heap.size = H) (hs : a.eval s = .slice (some ⟨H, 0, none⟩) 0 0)
    (A : Option Addr) (m c : Nat) (l : List UInt8) (hx : a.eval x = .slice A m c) (hr : Rd w A m (u8s l)) (hm : m ≤ 1000000000)
    (h : ∀ v' w', w'.ownsRow w.heap.size e 1 v' m (u8s l) → Below w.heap.size w w' → K (a.put o.dst v') w') : o.wp P a (w.alloc (.cells #[] e)) K Q := by
  subst hH; have hown0 : (w.alloc (.cells #[] e)).ownsRow w.heap.size e 1 (.slice (some ⟨w.heap.size, 0, none⟩) 0 0) 0 [] := World.ownsRow_lit w #[] 0 (Nat.le_refl _) (by simp [maxLen]) rfl; refine wp_app _ s x t ho w.heap.size e i z 1 ht hi hz hsize hby hzs _ 0 [] hs hown0 A m c (u8s l) hx (hr.alloc _) (u8s_oneCell _) (by omega) (by simp only [maxLen]; omega) (by simp) fun v' w' hA => ?_; refine h v' w' (by have := hA.own; simpa using this) ?_; exact ((Below.refl w.heap.size w).alloc (Nat.le_refl _) _).trans (hA.below hown0 (by simp))
theorem wpList_clip {ops : Array Oper} {rest : List Oper} {o : Oper} {a : Act} {Q : Exit → Act → World → Prop} (hgd : o.guard = none) (s x : Operand) (t : TypeId)
    (ho : o.op = .call { callee := .builtin .append, args := #[s, x], argTypes := #[t, t] })
    (e : TypeId) (i : TypeInfo) (z : Value) (ht : P.underlying t = some (.slice e)) (hi : P.info? e = some i) (hz : i.zero = some z)
    (hsize : i.size = 1) (hby : i.bytes = 1) (hzs : z.cells.size = 1) (H : Nat) (hH : w.heap.size = H) (hs : a.eval s = .slice (some ⟨H, 0, none⟩) 0 0)
    (A : Option Addr) (m c : Nat) (l : List UInt8) (hx : a.eval x = .slice A m c) (hr : Rd w A m (u8s l)) (hm : m ≤ 1000000000)
    (h : ∀ v' w', w'.ownsRow w.heap.size e 1 v' m (u8s l) → Below w.heap.size w w' → wpList P ops Q rest (a.put o.dst v') w') : wpList P ops Q (o :: rest) a (w.alloc (.cells #[] e)) :=
  wpList_plain hgd fun _ hK => wp_clip w s x t ho e i z ht hi hz hsize hby hzs H hH hs A m c l hx hr hm fun v' w' h1 h2 => hK _ _ (h v' w' h1 h2)
end
end Go.Proofs.YtjpphldojbfpfaaGreatDoor
namespace Go.Proofs.YtjpphldojbfpfaaGreatDoor
open Go.RowKit
section
variable {P : Program} {ops : Array Oper} {Q : Exit → Act → World → Prop}
structure Finds (ops : Array Oper) (Φ : Nat → Value → World → Prop) (a0 : Act) (i : Nat) (o : Oper) (a : Act) (w : World) : Prop where
  defers : a.defers = a0.defers
  size : a.tmps.size = a0.tmps.size
  dep : ∀ k ok d, ops[k]? = some ok → ok.dst = some d → d ∈ o.looksAt ops → o.after.any (fun e => Region.binds .any e && e.on == k) = true → ∃ v, a.tmps[d]? = some v ∧ Φ k v w
  old : ∀ d, d ∈ o.looksAt ops → (∀ k ok, ops[k]? = some ok → ok.dst = some d → k ≠ i → o.after.any (fun e => Region.binds .any e && e.on == k) = false) → a.tmps[d]? = a0.tmps[d]?
structure Ssa (ops : Array Oper) (Φ : Nat → Value → World → Prop) (a0 : Act) (listed : Array Bool) (a : Act) (w : World) : Prop where
  defers : a.defers = a0.defers
  size : a.tmps.size = a0.tmps.size
  new : ∀ i o, ops[i]? = some o → listed.getD i false = true → (∃ v, (∀ d, o.dst = some d → a.tmps[d]? = some v) ∧ Φ i v w)
  old : ∀ t, (∀ i o, ops[i]? = some o → listed.getD i false = true → o.dst ≠ some t) → a.tmps[t]? = a0.tmps[t]?
  closed : ∀ i o e, ops[i]? = some o → listed.getD i false = true → e ∈ o.after → Region.binds .any e = true → listed.getD e.on false = true
def ssaB (ops : Array Oper) (n : Nat) : Bool :=
  (List.range ops.size).all fun i => match ops[i]? with
    | none => true
    | some oi =>
      oi.after.all (fun e => !Region.binds .any e || e.on < i) &&
      (match oi.dst with | some d => d < n | none => true) &&
      (List.range ops.size).all fun k => (k == i) || match ops[k]? with
        | none => true
        | some ok => match ok.dst with
          | none => true
          | some d => oi.dst != some d &&
            (!(oi.looksAt ops).contains d || oi.after.any (fun e => Region.binds .any e && e.on == k) || ok.after.any (fun e => Region.binds .any e && e.on == i))
def unlisted (ops : Array Oper) (listed : Array Bool) : Nat := ((List.range ops.size).filter fun i => !listed.getD i false).length
theorem exists_least {p : Nat → Prop} (h : ∃ n, p n) : ∃ n, p n ∧ ∀ m, m < n → ¬ p m := by
  obtain ⟨n, hn⟩ := h
  induction n using Nat.strongRecOn with
  | ind n ih =>
    by_cases hm : ∃ m, m < n ∧ p m
    · obtain ⟨m, h1, h2⟩ := hm; exact ih m h1 h2
    · exact ⟨n, hn, fun m h1 h2 => hm ⟨m, h1, h2⟩⟩
theorem getD_true_false (l : Array Bool) (i : Nat) (h : i < l.size) : l.getD i true = l.getD i false := by simp [h]
theorem wpAny_ssa (a0 : Act) (w0 : World) (Φ : Nat → Value → World → Prop) (G : World → World → Prop) (htrans : ∀ a b c, G a b → G b c → G a c)
    (hΦ : ∀ i v w w', Φ i v w → G w w' → Φ i v w') (hB : ssaB ops a0.tmps.size = true)
    (hstep : ∀ i o, ops[i]? = some o → ∀ a w, G w0 w → Finds ops Φ a0 i o a w → wpOp P ops Q i (fun a' w' => ∃ v, a' = a.put o.dst v ∧ Φ i v w' ∧ G w w') a w)
    (hend : ∀ a w, G w0 w → Ssa ops Φ a0 (Array.replicate ops.size true) a w → Q .normal a w) :
    ∀ (fuel : Nat) (listed : Array Bool) (a : Act) (w : World), listed.size = ops.size → unlisted ops listed = fuel → G w0 w → Ssa ops Φ a0 listed a w → wpAny P .any ops Q fuel listed a w := by
  have hb : ∀ i oi, ops[i]? = some oi → (∀ e ∈ oi.after, Region.binds .any e = true → e.on < i) ∧ (∀ d, oi.dst = some d → d < a0.tmps.size) ∧
      (∀ k ok d, k ≠ i → ops[k]? = some ok → ok.dst = some d → oi.dst ≠ some d ∧ (d ∈ oi.looksAt ops → oi.after.any (fun e => Region.binds .any e && e.on == k) = true ∨ ok.after.any (fun e => Region.binds .any e && e.on == i) = true)) := by
    intro i oi hi
    have hlt : i < ops.size := by
      rcases Nat.lt_or_ge i ops.size with h | h
      · exact h
      · rw [Array.getElem?_eq_none h] at hi; cases hi
    have h1 := List.all_eq_true.1 hB i (by simpa using hlt); rw [hi] at h1; simp only [Bool.and_eq_true] at h1; obtain ⟨⟨h2, h3⟩, h4⟩ := h1; refine ⟨fun e he => ?_, fun d hd => ?_, fun k ok d hk hok hd => ?_⟩
    · have h5 := (Array.all_eq_true'.1 h2) e he; intro hbe; simpa [hbe] using h5
    · rw [hd] at h3; simpa using h3
    · have hlt' : k < ops.size := by
        rcases Nat.lt_or_ge k ops.size with h | h
        · exact h
        · rw [Array.getElem?_eq_none h] at hok; cases hok
      have h5 := List.all_eq_true.1 h4 k (by simpa using hlt'); rw [hok] at h5; simp only [hd, Bool.or_eq_true, beq_iff_eq, hk, false_or, Bool.and_eq_true, bne_iff_ne, ne_eq, Bool.not_eq_true'] at h5; refine ⟨h5.1, fun hm => ?_⟩; rcases h5.2 with (h6 | h6) | h6
      · rw [List.contains_iff_mem.2 hm] at h6; cases h6
      · exact .inl h6
      · exact .inr h6
  intro fuel
  induction fuel with
  | zero =>
    intro listed a w hs hu hG hI
    have hall : ∀ i, i < ops.size → listed.getD i false = true := by
      intro i hi; have h0 : (List.range ops.size).filter (fun i => !listed.getD i false) = [] := List.eq_nil_of_length_eq_zero hu; have := List.filter_eq_nil_iff.1 h0 i (by simpa using hi); simpa using this
    have hl : listed = Array.replicate ops.size true := by
      apply Array.ext
      · simp [hs]
      · intro i h1 h2; have := hall i (by omega); simp [h1] at this; simp [this]
    refine ⟨?_, hend a w hG (hl ▸ hI)⟩; unfold Region.ready; rw [List.filter_eq_nil_iff]; intro i hi; have := hall i (by simpa using hi); rw [← getD_true_false listed i (by simp at hi; omega)] at this; simp [this]
  | succ fuel ih =>
    intro listed a w hs hu hG hI; refine ⟨fun hr => ?_, fun i hi => ?_⟩
    · exfalso
      -- the least that is not listed may come up
      have hex : ∃ i, i < ops.size ∧ listed.getD i false = false := by
        have h0 : (List.range ops.size).filter (fun i => !listed.getD i false) ≠ [] := by
          intro h; unfold unlisted at hu; rw [h] at hu; simp at hu
        obtain ⟨i, hi⟩ := List.exists_mem_of_ne_nil _ h0; rw [List.mem_filter] at hi; exact ⟨i, by simpa using hi.1, by simpa using hi.2⟩
      obtain ⟨i, ⟨hi1, hi2⟩, hmin⟩ := exists_least hex
      have : i ∈ Region.ready .any ops listed := by
        rw [mem_ready]; refine ⟨by rw [getD_true_false listed i (by omega)]; exact hi2, _, Array.getElem?_eq_getElem hi1, fun e he hbe => ?_⟩; have h1 := (hb i _ (Array.getElem?_eq_getElem hi1)).1 e he hbe
        by_cases h2 : listed.getD e.on false = true
        · exact h2
        · exact absurd ⟨by omega, by simpa using h2⟩ (hmin e.on h1)
      rw [hr] at this; cases this
    · obtain ⟨hun, oi, hoi, hall⟩ := mem_ready.1 hi
      have hlt : i < ops.size := by
        rcases Nat.lt_or_ge i ops.size with h | h
        · exact h
        · rw [Array.getElem?_eq_none h] at hoi; cases hoi
      rw [getD_true_false listed i (by omega)] at hun; obtain ⟨b1, b2, b3⟩ := hb i oi hoi
      have hset : ∀ k, (listed.setIfInBounds i true).getD k false = (if k = i then true else listed.getD k false) := by
        intro k
        by_cases hk : k = i
        · subst hk; simp [Array.getD_eq_getD_getElem?, Array.getElem?_setIfInBounds_self_of_lt (by omega : k < listed.size)]
        · simp [Array.getD_eq_getD_getElem?, Array.getElem?_setIfInBounds_ne (Ne.symm hk), hk]
      have hdep : ∀ k, oi.after.any (fun e => Region.binds .any e && e.on == k) = true → listed.getD k false = true := by
        intro k hk; rw [Array.any_eq_true'] at hk; obtain ⟨e, he, hek⟩ := hk; simp only [Bool.and_eq_true, beq_iff_eq] at hek; rw [← hek.2]; exact hall e he hek.1
      have hF : Finds ops Φ a0 i oi a w := by
        refine ⟨hI.defers, hI.size, fun k ok d hok hd _ hk => ?_, fun d hd hno => ?_⟩
        · obtain ⟨v, hv, hφ⟩ := hI.new k ok hok (hdep k hk); exact ⟨v, hv d hd, hφ⟩
        · apply hI.old
          intro k ok hok hlk hkd
          by_cases hki : k = i
          · subst hki; rw [hun] at hlk; cases hlk
          · rcases (b3 k ok d hki hok hkd).2 hd with h1 | h1
            · rw [hno k ok hok hkd hki] at h1; cases h1
            · rw [Array.any_eq_true'] at h1; obtain ⟨e, he, hek⟩ := h1; simp only [Bool.and_eq_true, beq_iff_eq] at hek; have := hI.closed k ok e hok hlk he hek.1; rw [hek.2, hun] at this; cases this
      refine wpOp_mono (fun a' w' h => ?_) (hstep i oi hoi a w hG hF); obtain ⟨v, rfl, hφ, hg⟩ := h
      have hput : ∀ t, oi.dst ≠ some t → (a.put oi.dst v).tmps[t]? = a.tmps[t]? := by
        intro t ht; cases hd : oi.dst with
        | none => rfl
        | some d =>
          have hne : d ≠ t := fun e => ht (by rw [hd, e]); simp [Act.put, Array.getElem?_setIfInBounds_ne hne]
      refine ih _ _ _ (by simp [hs]) ?_ (htrans _ _ _ hG hg) ⟨?_, ?_, ?_, ?_, ?_⟩
      · -- one fewer
        unfold unlisted at hu ⊢
        have e1 : (List.range ops.size).filter (fun k => !(listed.setIfInBounds i true).getD k false) = ((List.range ops.size).filter fun k => !listed.getD k false).erase i := by
          rw [List.Nodup.erase_eq_filter (List.Pairwise.filter _ List.nodup_range), List.filter_filter]; apply List.filter_congr
          intro k _; rw [hset k]
          by_cases hk : k = i
          · simp [hk]
          · simp [hk]
        rw [e1, List.length_erase_of_mem (by rw [List.mem_filter]; exact ⟨by simpa using hlt, by simp [hun]⟩), hu]; omega
      · cases hd : oi.dst <;> simp [Act.put, hI.defers]
      · cases hd : oi.dst <;> simp [Act.put, hI.size]
      · intro k ok hok hlk; rw [hset k] at hlk
        by_cases hki : k = i
        · subst hki; rw [hoi] at hok; injection hok with hok; subst hok
          refine ⟨v, fun d hd => ?_, hφ⟩; have := b2 d hd; rw [hd]; simp [Act.put, Array.getElem?_setIfInBounds_self_of_lt (by rw [hI.size]; exact this : d < a.tmps.size)]
        · rw [if_neg hki] at hlk; obtain ⟨u, hu1, hu2⟩ := hI.new k ok hok hlk; refine ⟨u, fun d hd => ?_, hΦ _ _ _ _ hu2 hg⟩; rw [hput d (b3 k ok d hki hok hd).1]; exact hu1 d hd
      · intro t ht; have h1 : oi.dst ≠ some t := ht i oi hoi (by rw [hset i]; simp); rw [hput t h1]; apply hI.old
        intro k ok hok hlk; exact ht k ok hok (by rw [hset k]; split <;> simp_all)
      · intro k ok e hok hlk he hbe; rw [hset k] at hlk; rw [hset e.on]
        by_cases hki : k = i
        · subst hki; rw [hoi] at hok; injection hok with hok; subst hok
          split
          · rfl
          · exact hall e he hbe
        · rw [if_neg hki] at hlk; split
          · rfl
          · exact hI.closed k ok e hok hlk he hbe
def putAll (vs : Nat → Value) : Nat → List Oper → Act → Act
  | _, [], a => a
  | i, o :: os, a => putAll vs (i + 1) os (a.put o.dst (vs i))
theorem put_get (a : Act) (dst : Option Tmp) (v : Value) (t : Nat) (h : dst ≠ some t) : (a.put dst v).tmps[t]? = a.tmps[t]? := by
  cases dst with
  | none => rfl
  | some d =>
    have hne : d ≠ t := fun e => h (by rw [e]); simp [Act.put, Array.getElem?_setIfInBounds_ne hne]
theorem put_size (a : Act) (dst : Option Tmp) (v : Value) : (a.put dst v).tmps.size = a.tmps.size := by cases dst <;> simp [Act.put]
theorem put_defers_ (a : Act) (dst : Option Tmp) (v : Value) : (a.put dst v).defers = a.defers := by cases dst <;> rfl
theorem put_at (a : Act) (d : Tmp) (v : Value) (h : d < a.tmps.size) : (a.put (some d) v).tmps[d]? = some v := by simp [Act.put, h]
theorem putAll_size (vs : Nat → Value) : ∀ (os : List Oper) (i : Nat) (a : Act), (putAll vs i os a).tmps.size = a.tmps.size
  | [], _, _ => rfl
  | o :: os, i, a => by rw [putAll, putAll_size vs os, put_size]
theorem putAll_defers (vs : Nat → Value) : ∀ (os : List Oper) (i : Nat) (a : Act), (putAll vs i os a).defers = a.defers
  | [], _, _ => rfl
  | o :: os, i, a => by rw [putAll, putAll_defers vs os, put_defers_]
theorem putAll_old (vs : Nat → Value) (t : Nat) : ∀ (os : List Oper) (i : Nat) (a : Act), (∀ o ∈ os, o.dst ≠ some t) → (putAll vs i os a).tmps[t]? = a.tmps[t]?
  | [], _, _, _ => rfl
  | o :: os, i, a, h => by rw [putAll, putAll_old vs t os _ _ fun o' h' => h o' (by simp [h']), put_get _ _ _ _ (h o (by simp))]
theorem putAll_new (vs : Nat → Value) (t : Nat) : ∀ (os : List Oper) (i : Nat) (a : Act) (j : Nat) (o : Oper), os[j]? = some o → o.dst = some t → t < a.tmps.size →
    (∀ k o', os[k]? = some o' → o'.dst = some t → k = j) → (putAll vs i os a).tmps[t]? = some (vs (i + j))
  | [], _, _, j, o, h, _, _, _ => by simp at h
  | o1 :: os, i, a, 0, o, h, hd, ht, hu => by
    simp at h; subst h; rw [putAll, putAll_old vs t os _ _ fun (o' : Oper) h' e => ?_, hd, put_at _ _ _ ht]
    · rfl
    · obtain ⟨k, hk⟩ := List.getElem?_of_mem h'; have := hu (k + 1) o' (by simpa using hk) e; omega
  | o1 :: os, i, a, j + 1, o, h, hd, ht, hu => by
    rw [putAll, putAll_new vs t os (i + 1) _ j o (by simpa using h) hd (by rw [put_size]; exact ht) fun k o' hk hd' => ?_]
    · congr 2; omega
    · have := hu (k + 1) o' (by simpa using hk) hd'; omega
theorem wp_region_ssa {id : Nat} {a0 : Act} {w0 : World} (hm : P.follows .mixedOrders = true) (Φ : Nat → Value → World → Prop) (G : World → World → Prop) (htrans : ∀ a b c, G a b → G b c → G a c)
    (hΦ : ∀ i v w w', Φ i v w → G w w' → Φ i v w') (hB : ssaB ops a0.tmps.size = true) (hG : G w0.drew w0.drew)
    (hstep : ∀ i o, ops[i]? = some o → ∀ a w, G w0.drew w → Finds ops Φ a0 i o a w → wpOp P ops Q i (fun a' w' => ∃ v, a' = a.put o.dst v ∧ Φ i v w' ∧ G w w') a w)
    (hend : ∀ (vs : Nat → Value) w, G w0.drew w → (∀ i, i < ops.size → Φ i (vs i) w) → Q .normal (putAll vs 0 ops.toList a0) w) : (Code.region id ops true).wp P Q a0 w0 := by
  refine wp_region_any hm (wpAny_ssa a0 w0.drew Φ G htrans hΦ hB hstep (fun a w hg hI => ?_) ops.size (Array.replicate ops.size false) a0 w0.drew (by simp) ?_ hG ⟨rfl, rfl, ?_, fun _ _ => rfl, ?_⟩)
  · have hch : ∀ i, ∃ v, i < ops.size → (∀ d, ((ops[i]?).bind (fun o : Oper => o.dst)) = some d → a.tmps[d]? = some v) ∧ Φ i v w := by
      intro i
      by_cases hi : i < ops.size
      · obtain ⟨v, h1, h2⟩ := hI.new i _ (Array.getElem?_eq_getElem hi) (by simp [hi]); exact ⟨v, fun _ => ⟨fun d hd => h1 d (by simpa [hi] using hd), h2⟩⟩
      · exact ⟨undef, fun h => absurd h hi⟩
    have hvs := fun i => Classical.choose_spec (hch i); have hend' := hend (fun i => Classical.choose (hch i)) w hg fun i hi => (hvs i hi).2
    have ha : putAll (fun i => Classical.choose (hch i)) 0 ops.toList a0 = a := by
      have h1 := putAll_defers (fun i => Classical.choose (hch i)) ops.toList 0 a0; have h2 := putAll_size (fun i => Classical.choose (hch i)) ops.toList 0 a0
      have h3 : (putAll (fun i => Classical.choose (hch i)) 0 ops.toList a0).tmps = a.tmps := by
        apply Array.ext_getElem?
        intro t
        by_cases hex : ∃ (j : Nat) (o : Oper), ops[j]? = some o ∧ o.dst = some t
        · obtain ⟨j, o, hj, hd⟩ := hex
          have hlt : j < ops.size := by
            rcases Nat.lt_or_ge j ops.size with h | h
            · exact h
            · rw [Array.getElem?_eq_none h] at hj; cases hj
          have hb := List.all_eq_true.1 hB j (by simpa using hlt); rw [hj] at hb; simp only [Bool.and_eq_true, hd, decide_eq_true_eq] at hb; rw [putAll_new _ t ops.toList 0 a0 j o (by simpa using hj) hd hb.1.2 fun k o' hk hd' => ?_, (hvs j hlt).1 t (by rw [hj]; exact hd)]
          · simp
          · rcases Nat.decEq k j with hkj | hkj
            · exfalso
              have hk' : ops[k]? = some o' := by simpa using hk
              have hltk : k < ops.size := by
                rcases Nat.lt_or_ge k ops.size with h | h
                · exact h
                · rw [Array.getElem?_eq_none h] at hk'; cases hk'
              have h5 := List.all_eq_true.1 hb.2 k (by simpa using hltk); rw [hk'] at h5; simp [hkj, hd'] at h5
            · exact hkj
        · rw [putAll_old _ t ops.toList 0 a0 (fun (o : Oper) ho e => hex (by obtain ⟨j, hj⟩ := List.getElem?_of_mem ho; exact ⟨j, o, by simpa using hj, e⟩)), hI.old t fun i o hi _ e => hex ⟨i, o, hi, e⟩]
      have h4 := hI.defers; cases a; cases hq : putAll (fun i => Classical.choose (hch i)) 0 ops.toList a0; rw [hq] at h1 h3; simp only at h1 h3 h4; rw [h1, h3, h4]
    rw [← ha]; exact hend'
  · unfold unlisted; rw [List.filter_eq_self.2]
    · simp
    · intro i hi; simp only [List.mem_range] at hi; simp [hi]
  · intro i o hi hl; exfalso
    rw [Array.getD_eq_getD_getElem?, Array.getElem?_replicate] at hl; split at hl <;> simp at hl
  · intro i o e hi hl; exfalso
    rw [Array.getD_eq_getD_getElem?, Array.getElem?_replicate] at hl; split at hl <;> simp at hl
def AllFrom (S : Nat → Oper → Prop) : Nat → List Oper → Prop
  | _, [] => True
  | i, o :: os => S i o ∧ AllFrom S (i + 1) os
theorem allFrom_get {S : Nat → Oper → Prop} : ∀ (os : List Oper) (i : Nat), AllFrom S i os → ∀ j o, os[j]? = some o → S (i + j) o
  | [], _, _, j, o, h => by simp at h
  | o1 :: os, i, h, 0, o, hj => by simp at hj; subst hj; exact h.1
  | o1 :: os, i, h, j + 1, o, hj => by
    have := allFrom_get os (i + 1) h.2 j o (by simpa using hj)
    rwa [show i + 1 + j = i + (j + 1) by omega] at this
theorem ops_all {ops : Array Oper} {S : Nat → Oper → Prop} (h : AllFrom S 0 ops.toList) : ∀ i o, ops[i]? = some o → S i o := fun i o hi => by
  have := allFrom_get ops.toList 0 h i o (by simpa using hi); simpa using this
theorem Finds.dep_ {Φ : Nat → Value → World → Prop} {a0 a : Act} {i : Nat} {o : Oper} {w : World} (h : Finds ops Φ a0 i o a w) (k d : Nat)
    (hk : (ops[k]?).bind (fun o : Oper => o.dst) = some d) (hl : (o.looksAt ops).contains d = true) (ha : o.after.any (fun e => Region.binds .any e && e.on == k) = true) : ∃ v, a.eval (.tmp d) = v ∧ Φ k v w := by
  cases hk' : ops[k]? with
  | none => rw [hk'] at hk; cases hk
  | some ok =>
    rw [hk'] at hk; obtain ⟨v, h1, h2⟩ := h.dep k ok d hk' hk (by simpa using hl) ha; exact ⟨v, by simp [Act.eval, h1], h2⟩
theorem Finds.old_ {Φ : Nat → Value → World → Prop} {a0 a : Act} {i : Nat} {o : Oper} {w : World} (h : Finds ops Φ a0 i o a w) (d : Nat) (hl : (o.looksAt ops).contains d = true)
    (hno : ((List.range ops.size).all fun k => (match ops[k]? with | some ok => ok.dst != some d | none => true) || k == i || !(o.after.any (fun e => Region.binds .any e && e.on == k))) = true) :
    a.eval (.tmp d) = a0.eval (.tmp d) := by
  have := h.old d (by simpa using hl) fun k ok hk hd hki => by
    have hlt : k < ops.size := by
      rcases Nat.lt_or_ge k ops.size with h | h
      · exact h
      · rw [Array.getElem?_eq_none h] at hk; cases hk
    have h5 := List.all_eq_true.1 hno k (by simpa using hlt); rw [hk] at h5; simp only [hd, bne_self_eq_false, Bool.false_or, Bool.or_eq_true, beq_iff_eq, hki, false_or, Bool.not_eq_true'] at h5; exact h5
  simp [Act.eval, this]
end
section
variable {P : Program} {ops : Array Oper} {Q : Exit → Act → World → Prop}
def IsV (x : Value) : Value → World → Prop := fun v _ => v = x
def AnyV : Value → World → Prop := fun _ _ => True
def StepL (P : Program) (ops : Array Oper) (Q : Exit → Act → World → Prop) (a0 : Act) (w0 : World) (G : World → World → Prop) (L : List (Value → World → Prop)) (i : Nat) (o : Oper) : Prop :=
  ∀ a w, G w0 w → Finds ops (fun i => L.getD i AnyV) a0 i o a w → wpOp P ops Q i (fun a' w' => ∃ v, a' = a.put o.dst v ∧ (L.getD i AnyV) v w' ∧ G w w') a w
theorem wp_region_ssaL {id : Nat} {a0 : Act} {w0 : World} (hm : P.follows .mixedOrders = true) (L : List (Value → World → Prop)) (hB : ssaB ops a0.tmps.size = true)
    (hL : ∀ φ ∈ L, ∀ v w w', φ v w → Gr w w' → φ v w')
    (hstep : AllFrom (StepL P ops Q a0 w0.drew Gr L) 0 ops.toList)
    (hend : ∀ (vs : Nat → Value) w, Gr w0.drew w → AllFrom (fun i _ => (L.getD i AnyV) (vs i) w) 0 ops.toList → Q .normal (putAll vs 0 ops.toList a0) w) : (Code.region id ops true).wp P Q a0 w0 := by
  refine wp_region_ssa hm (fun i => L.getD i AnyV) Gr (fun _ _ _ => Gr.trans) (fun i v w w' h hg => ?_) hB (Gr.refl _) (fun i o hi a w => ops_all hstep i o hi a w) (fun vs w hg h => hend vs w hg ?_)
  · rcases Nat.lt_or_ge i L.length with hlt | hge
    · simp only [List.getD_eq_getElem?_getD, List.getElem?_eq_getElem hlt, Option.getD_some] at h ⊢; exact hL _ (List.getElem_mem hlt) v w w' h hg
    · simp only [List.getD_eq_getElem?_getD, List.getElem?_eq_none hge, Option.getD_none] at h ⊢; exact trivial
  · have hall : ∀ (os : List Oper) (k : Nat), k + os.length ≤ ops.size → AllFrom (fun i _ => (L.getD i AnyV) (vs i) w) k os := by
      intro os
      induction os with
      | nil => intro k _; exact trivial
      | cons o os ih => intro k hk; simp at hk; exact ⟨h k (by omega), ih (k + 1) (by omega)⟩
    exact hall _ 0 (by simp)
theorem run_len_slice {ev : Operand → Value} {x : Operand} {d : Option Tmp} {t T : TypeId} {p : String} {af : Array Edge} {g : Option (Nat × Bool)} {A : Option Addr} {n c : Nat} {w : World} {e : TypeId} (hT : P.underlying T = some (.slice e)) (h : ev x = .slice A n c) :
    (execOp ev ⟨d, .call { callee := .builtin .len, args := #[x], argTypes := #[T] }, t, p, af, g⟩).run P w = .ok (.value (.int .i64 n)) w := by
  simp [execOp, h, resolve, invoke, builtin, Builtin.len_, run_underlying hT, goInt]
end
end Go.Proofs.YtjpphldojbfpfaaGreatDoor
namespace Go.Proofs.YtjpphldojbfpfaaGreatDoor
open Go.RowKit
set_option maxRecDepth 100000 in
set_option maxHeartbeats 400000 in
theorem left_any (x : UInt32) (n : Int) (w : World) :
    Calls Tryz.prog 125 #[.int .u32 x.toNat, .int .i64 n] w fun e w' => e = .returned (.int .u32 (leftU x n).toNat) ∧ w = w' := by
  obtain ⟨k, hk, e⟩ : ∃ k : Nat, (k < 32 ∧ k = (n % 32).toNat) ∧ (IntKind.u64.wrap n).tmod 32 = (k : Int) := by
    refine ⟨(n % 32).toNat, ⟨by omega, rfl⟩, ?_⟩; rw [IntKind.wrap_u64, Int.tmod_eq_emod_of_nonneg (by omega)]; omega
  obtain ⟨hk, hkn⟩ := hk; have HK : Hid (leftU x n = rotl x k) := by show _ = _; rw [leftU, ← hkn]
  clear hkn; have HR : Hid (_ = _) := or_rot x k hk
  go_enter Tryz.func125, Tryz.ntmps125
  go_wp2
  go_ret
  exact ⟨by rw [HK.out, ← HR.out]; rfl, rfl⟩
theorem Tryz.info5 : (Tryz.prog.info? 5).map (fun i => (i.zero, i.size, i.bytes)) = some (some (.int .u8 0), 1, 1) := by kernel_rfl
set_option maxRecDepth 100000 in
set_option maxHeartbeats 400000 in
theorem putLow_any (x : Nat) (hx : x < 18446744073709551616) (n : Int) (w : World) :
    Calls Tryz.prog 87 #[.int .u64 x, .int .i64 n] w fun e w' => ∃ v, e = .returned v ∧
      w'.ownsRow w.heap.size 5 1 v (min n 64).toNat (u8s (leBytes (min n 64).toNat x)) ∧ Below w.heap.size w w' := by
  obtain ⟨i0, hi0, hz0, hz1, hz2⟩ := info_parts Tryz.info5; have hm64 : (min n 64).toNat ≤ 64 := by omega
  go_enter Tryz.func87, Tryz.ntmps87
  go_wp2
  go_loopw [0, 5, 8] (fun q v i wr => ∃ k q0 : Nat, k ≤ (min n 64).toNat ∧ i = .int .i64 k ∧ q = .int .u64 q0 ∧ Hid (q0 = x / 256 ^ k) ∧ q0 < 18446744073709551616 ∧
      wr.ownsRow w.heap.size 5 1 v k (u8s (leBytes k x)) ∧ Below w.heap.size w wr)
    (fun _ _ i _ => (min n 64).toNat - (intOf i).toNat)
  case atStart => exact ⟨0, x, Nat.zero_le _, rfl, rfl, by simp [Hid], hx, World.ownsRow_nil _ _ _ _, Below.refl _ _⟩
  case round =>
    obtain ⟨k, q, hk, rfl, rfl, hq, hqb, hown, hbw⟩ := hrel; have hbs := hbw.size
    go_wp2_with (at_builtin; go_must (refine wpList_app1 wr rfl (.tmp 10) (.tmp 13) 43 rfl w.heap.size 5 i0 (.int .u8 0) 1 Tryz.underlying43 hi0 hz0 hz1 hz2 rfl u5 k _ rfl hown _ (.int .u8 (UInt8.ofNat q).toNat) rfl (by simp) rfl (by omega) (by unfold maxLen; omega) hbs ?_); intro v' w1 hA)
    · have hlt : (k : Int) < min n 64 := by assumption
      have hB := hbw.trans (hA.below hown hbs); have ho := hA.own
      have HE : Hid (u8s (leBytes (k + 1) x) = u8s (leBytes k x) ++ [.int .u8 (UInt8.ofNat q).toNat]) := by
        show _ = _; rw [leBytes_snoc, u8s_append, u8s_one, hq.out]
      have HQ : Hid (q / 256 = x / 256 ^ (k + 1)) := by
        show _ = _; rw [hq.out, Nat.div_div_eq_div_mul, Nat.pow_succ]
      clear hA hown hbw
      go_wp2
      go_roundw
      case rel => exact ⟨k + 1, q / 256, by omega, by go_num, by go_num, HQ, by omega, by rw [HE.out]; exact ho, hB⟩
      case measure => simp [intOf]; omega
    · have hge : min n 64 ≤ (k : Int) := by assumption
      obtain rfl : k = (min n 64).toNat := by omega
      go_ret
      exact ⟨_, rfl, hown, hbw⟩
def Swapped (xs ys : List UInt8) (n k : Nat) : Prop := ys.length = n ∧ ∀ t, t < n → ys[t]? = if t < k ∨ n - k ≤ t then xs[n - 1 - t]? else xs[t]?
theorem swapped_next {l ys : List UInt8} {n k : Nat} {u q : UInt8} (h : Swapped l ys n k) (hl : l.length = n) (hk : 2 * k + 1 < n) (hu : ys[k]? = some u) (hq : ys[n - 1 - k]? = some q) :
    Swapped l ((ys.set k q).set (n - 1 - k) u) n (k + 1) := by
  refine ⟨by simp [h.1], fun t ht => ?_⟩; have h1 := h.2 k (by omega); have h2 := h.2 (n - 1 - k) (by omega); have h3 := h.2 t ht; have hl2 := h.1; rw [if_neg (by omega)] at h1 h2; rw [hu] at h1; rw [hq] at h2; rw [List.getElem?_set]
  by_cases e1 : n - 1 - k = t
  · subst e1; rw [if_pos rfl, if_pos (by simp; omega), if_pos (by omega), h1]; congr 1; omega
  · rw [if_neg e1, List.getElem?_set]
    by_cases e2 : k = t
    · subst e2; rw [if_pos rfl, if_pos (by omega), if_pos (by omega), h2]
    · rw [if_neg e2, h3]
      by_cases e3 : t < k ∨ n - k ≤ t
      · rw [if_pos e3, if_pos (by omega)]
      · rw [if_neg e3, if_neg (by omega)]
theorem swapped_all {l ys : List UInt8} {n k : Nat} (h : Swapped l ys n k) (hl : l.length = n) (hk : n ≤ 2 * k + 1) : ys = l.reverse := by
  apply List.ext_getElem?
  intro t
  by_cases ht : t < n
  · rw [h.2 t ht, List.getElem?_reverse (by omega), hl]
    by_cases e3 : t < k ∨ n - k ≤ t
    · rw [if_pos e3]
    · rw [if_neg e3]; congr 1; omega
  · rw [List.getElem?_eq_none (by have := h.1; omega), List.getElem?_eq_none (by simp; omega)]
theorem own_set2 {w : World} {base : Nat} {e : TypeId} {g n c : Nat} {ys : List UInt8} (ho : w.ownsRow base e 1 (.slice (some ⟨g, 0, none⟩) n c) n (u8s ys)) (i j : Nat) (a b : UInt8) :
    ((w.setCell ⟨g, i, none⟩ (.int .u8 (a.toNat : Int))).setCell ⟨g, j, none⟩ (.int .u8 (b.toNat : Int))).drew.ownsRow base e 1 (.slice (some ⟨g, 0, none⟩) n c) n (u8s ((ys.set i a).set j b)) ∧
    w.grownBy ((w.setCell ⟨g, i, none⟩ (.int .u8 (a.toNat : Int))).setCell ⟨g, j, none⟩ (.int .u8 (b.toNat : Int))).drew (some g) := by
  have h1 := ho.stored i (.int .u8 (a.toNat : Int)); have h2 := h1.1.stored j (.int .u8 (b.toNat : Int)); refine ⟨?_, grownBy_drew (grownBy_trans h1.2 h2.2)⟩; have e1 : u8s ((ys.set i a).set j b) = ((u8s ys).set i (.int .u8 (a.toNat : Int))).set j (.int .u8 (b.toNat : Int)) := by simp [u8s, List.map_set]
  rw [e1]; exact h2.1.drew
set_option maxRecDepth 100000 in
set_option maxHeartbeats 400000 in
theorem reverse_any (base : Nat) (v : Value) (n : Nat) (l : List UInt8) (hn : n ≤ 1000000) (w : World) (hown : w.ownsRow base 5 1 v n (u8s l)) :
    Calls Tryz.prog 88 #[v] w fun e w' => e = .returned (.tuple #[]) ∧ w'.ownsRow base 5 1 v n (u8s l.reverse) ∧ w.grownBy w' v.ownBlock := by
  obtain ⟨A, c, rfl, hnc, hA⟩ := own_form hown; have hll : l.length = n := by simpa using hown.1
  go_enter Tryz.func88, Tryz.ntmps88
  go_wp2
  go_loopw [2, 3] (fun i j wr => ∃ k : Nat, ∃ ys, i = .int .i64 k ∧ j = .int .i64 ((n : Int) - 1 - k) ∧ 2 * k ≤ n + 1 ∧ Hid (Swapped l ys n k) ∧ wr.ownsRow base 5 1 (.slice A n c) n (u8s ys) ∧ w.grownBy wr (Value.slice A n c).ownBlock)
    (fun i _ _ => n - (intOf i).toNat)
  case atStart => exact ⟨0, l, rfl, by simp, by omega, ⟨hll, fun t ht => by simp; omega⟩, hown, World.grownBy.refl _ _⟩
  case round =>
    obtain ⟨k, ys, rfl, rfl, hk, hsw, ho, hg⟩ := hrel
    by_cases hlt : (k : Int) < (n : Int) - 1 - k
    · obtain ⟨g, cap, hv, hb, hgl⟩ := ho.form (by omega); obtain ⟨rfl, rfl⟩ : A = some ⟨g, 0, none⟩ ∧ c = cap := by injection hv with h1 _ h3; exact ⟨h1, h3⟩
      have hl : ys.length = n := hsw.out.1; obtain ⟨u, hu⟩ : ∃ u, ys[k]? = some u := ⟨_, List.getElem?_eq_getElem (by omega)⟩; obtain ⟨q, hq⟩ : ∃ q, ys[n - 1 - k]? = some q := ⟨_, List.getElem?_eq_getElem (by omega)⟩; have c1 : wr.cell? ⟨g, k, none⟩ = some (.int .u8 (u.toNat : Int)) := (ho.cellAt k (by omega)).trans (by simp [u8s, hu]); have c2 : wr.cell? ⟨g, n - 1 - k, none⟩ = some (.int .u8 (q.toNat : Int)) := (ho.cellAt (n - 1 - k) (by omega)).trans (by simp [u8s, hq]); have f1 : wr.frozen? ⟨g, k, none⟩ = false := ho.frozenAt k; have f2 : wr.frozen? ⟨g, n - 1 - k, none⟩ = false := ho.frozenAt (n - 1 - k); have HU := Lib.hid hu; have HQ := Lib.hid hq; have HL := Lib.hid hll; clear hu hq hl hA hown hgl hll hv
      go_wp2
      go_region
      all_goals
        go_wp2
        go_roundw
        case rel =>
          have hS := own_set2 ho k (n - 1 - k) q u; exact ⟨k + 1, _, by go_num, by go_num, by omega, swapped_next hsw.out HL.out (by omega) HU.out HQ.out, hS.1, grownBy_trans hg hS.2⟩
        case measure => simp [intOf]; omega
    · go_wp2
      go_end0
      refine ⟨rfl, ?_, hg⟩; rw [← swapped_all hsw.out hll (by omega)]; exact ho
theorem putHigh_any (x : Nat) (hx : x < 18446744073709551616) (n : Int) (w : World) :
    Calls Tryz.prog 43 #[.int .u64 x, .int .i64 n] w fun e w' => ∃ v, e = .returned v ∧
      w'.ownsRow w.heap.size 5 1 v (min n 64).toNat (u8s (leBytes (min n 64).toNat x).reverse) ∧ Below w.heap.size w w' := by
  go_enter Tryz.func43, Tryz.ntmps43
  go_wp2_with (go_at_call 87; refine (putLow_any x hx n _).mono ?_; rintro e w1 ⟨v, rfl, ho, hb⟩)
  go_wp2_with (go_at_call 88; refine (reverse_any _ v _ _ (by omega) _ ho).mono ?_; rintro e w2 ⟨rfl, ho2, hg⟩)
  go_ret
  exact ⟨_, rfl, ho2, hb.grown hg hb.size fun k hk => (ho.lt k hk).1⟩
set_option maxRecDepth 100000 in
theorem byte_yes (n : Int) (h0 : 0 ≤ n) (h1 : n < 256) (w : World) :
    Calls Tryz.prog 131 #[.int .i64 n] w fun e w' => e = .returned (.tuple #[.int .u8 n, .bool true]) ∧ w = w' := by
  have e1 : IntKind.u8.wrap n = n := by rw [IntKind.wrap_u8']; omega
  go_enter Tryz.func131, Tryz.ntmps131
  go_wp2
  go_ret2
  exact ⟨rfl, rfl⟩
set_option maxRecDepth 100000 in
theorem int_yes (x : Int) (h0 : 0 ≤ x) (h1 : x < 9223372036854775808) (w : World) :
    Calls Tryz.prog 122 #[.int .u64 x] w fun e w' => e = .returned (.tuple #[.int .i64 x, .bool true]) ∧ w = w' := by
  have e1 : IntKind.i64.wrap x = x := IntWalk.i64_in x (by omega)
  go_enter Tryz.func122, Tryz.ntmps122
  go_wp2
  go_ret2
  exact ⟨rfl, rfl⟩
theorem rd_byte {w : World} {A : Option Addr} {n k : Nat} {l : List UInt8} (h : Rd w A n (u8s l)) (hk : k < n) :
    ∃ ad c, A = some ad ∧ l[k]? = some c ∧ w.cell? (ad.add k) = some (.int .u8 (c.toNat : Int)) := by
  obtain ⟨ad, u, e, hu, hc⟩ := h.at_ hk; simp only [u8s, List.getElem?_map, Option.map_eq_some_iff] at hu; obtain ⟨c, hc', rfl⟩ := hu; exact ⟨ad, c, e, hc', hc⟩
set_option maxRecDepth 100000 in
set_option maxHeartbeats 400000 in
theorem high_any (A : Option Addr) (n c : Nat) (l : List UInt8) (hn : n ≤ 8) (w : World) (hr : Rd w A n (u8s l)) :
    Calls Tryz.prog 146 #[.slice A n c] w fun e w' => e = .returned (.int .u64 (beNat l : Nat)) ∧ w = w' := by
  have hl : l.length = n := by simpa using hr.1
  go_enter Tryz.func146, Tryz.ntmps146
  go_wp2
  go_loop [3, 8] (fun x i => ∃ k q : Nat, k ≤ n ∧ i = .int .i64 k ∧ x = .int .u64 q ∧ Hid (q = beNat (l.take k))) (fun _ i => n - (intOf i).toNat)
  case atStart => exact ⟨0, 0, Nat.zero_le _, rfl, rfl, rfl⟩
  case round =>
    obtain ⟨k, q, hk, rfl, rfl, hq⟩ := hrel
    by_cases hlt : k < n
    · obtain ⟨ad, d, rfl, hd, hc⟩ := rd_byte hr hlt; have hd1 := d.toNat_lt
      have hq1 : q < 72057594037927936 := by
        rw [hq.out]; refine Nat.lt_of_lt_of_le (beNat_lt _) ?_; have : 256 ^ (l.take k).length ≤ 256 ^ 7 := Nat.pow_le_pow_right (by omega) (by rw [List.length_take]; omega); omega
      have e1 : bits .or .u64 ((q : Int) * 256) (d.toNat : Int) = ((q * 256 + d.toNat : Nat) : Int) := by
        rw [show (q : Int) * 256 = ((q * 256 : Nat) : Int) by simp, u64_or_nat _ _ (by omega) (by omega)]; rw [Nat.or_comm, Nat.mul_comm q 256, show (256 : Nat) = 2 ^ 8 from rfl, or_add_ _ _ _ (by omega)]; congr 1; omega
      have HQ : Hid (q * 256 + d.toNat = beNat (l.take (k + 1))) := by
        show _ = _; rw [take_snoc_ l k d hd, beNat_snoc, hq.out]
      clear hd hl
      go_wp2
      go_round
      case rel => exact ⟨k + 1, _, by omega, by go_num, by go_num, HQ⟩
      case measure => simp [intOf]; omega
    · obtain rfl : k = n := by omega
      go_wp2
      go_ret
      rw [hq.out, List.take_of_length_le (by omega)]; exact ⟨rfl, rfl⟩
set_option maxRecDepth 100000 in
theorem high32_any (A : Option Addr) (c : Nat) (l : List UInt8) (w : World) (hr : Rd w A 4 (u8s l)) :
    Calls Tryz.prog 123 #[.slice A 4 c] w fun e w' => e = .returned (.tuple #[.int .u32 (beNat l : Nat), .bool true]) ∧ w = w' := by
  have hl : l.length = 4 := by simpa using hr.1
  have hb := beNat_lt l; rw [hl] at hb; have e1 : IntKind.u32.wrap (beNat l : Nat) = (beNat l : Nat) := by rw [IntKind.wrap_u32']; omega
  go_enter Tryz.func123, Tryz.ntmps123
  go_wp2_with (go_at_call 146; refine (high_any A 4 c l (by omega) _ hr).mono ?_; rintro e w1 ⟨rfl, rfl⟩)
  go_ret2
  exact ⟨rfl, rfl⟩
end Go.Proofs.YtjpphldojbfpfaaGreatDoor
namespace Go.Proofs.YtjpphldojbfpfaaGreatDoor
open Go.RowKit
section
variable {P : Program}
end
end Go.Proofs.YtjpphldojbfpfaaGreatDoor
namespace Go.Proofs.YtjpphldojbfpfaaGreatDoor
open Go.RowKit
section
variable {P : Program} {ops : Array Oper} {Q : Exit → Act → World → Prop} {L : List (Value → World → Prop)} {i : Nat} {o : Oper} {a a0 : Act} {w : World}
def depB (ops : Array Oper) (o : Oper) (k d : Nat) : Bool := ((ops[k]?).bind (fun o : Oper => o.dst) == some d) && (o.looksAt ops).contains d && o.after.any (fun e => Region.binds .any e && e.on == k)
def oldB (ops : Array Oper) (i : Nat) (o : Oper) (d : Nat) : Bool := (o.looksAt ops).contains d && ((List.range ops.size).all fun k => (match ops[k]? with | some ok => ok.dst != some d | none => true) || k == i || !(o.after.any (fun e => Region.binds .any e && e.on == k)))
theorem Finds.dp {Φ : Nat → Value → World → Prop} (h : Finds ops Φ a0 i o a w) (k d : Nat) (hb : depB ops o k d = true) : ∃ v, a.eval (.tmp d) = v ∧ Φ k v w := by
  unfold depB at hb; simp only [Bool.and_eq_true] at hb; exact h.dep_ k d (by simpa using hb.1.1) hb.1.2 hb.2
theorem Finds.ol {Φ : Nat → Value → World → Prop} (h : Finds ops Φ a0 i o a w) (d : Nat) (hb : oldB ops i o d = true) : a.eval (.tmp d) = a0.eval (.tmp d) := by
  unfold oldB at hb; simp only [Bool.and_eq_true] at hb; exact h.old_ d hb.1 hb.2
def Wanted (ops : Array Oper) (o : Oper) (a : Act) : Prop := Region.wanted o (yielded ops a.tmps) = true
theorem wants0 (hg : o.guard = none) : Wanted ops o a := by simp [Wanted, Region.wanted, hg]
theorem wantsG (hF : Finds ops (fun i => L.getD i AnyV) a0 i o a w) (g d : Nat) (b : Bool) (hg : o.guard = some (g, b)) (hb : depB ops o g d = true) (hφ : L.getD g AnyV = IsV (.bool b)) : Wanted ops o a := by
  unfold depB at hb; simp only [Bool.and_eq_true] at hb; obtain ⟨⟨h1, h2⟩, h3⟩ := hb; have h1 : (ops[g]?).bind (fun o : Oper => o.dst) = some d := by simpa using h1
  cases hk' : ops[g]? with
  | none => rw [hk'] at h1; cases h1
  | some ok =>
    rw [hk'] at h1; obtain ⟨v, hv, hf⟩ := hF.dep g ok d hk' h1 (by simpa using h2) h3; simp only [hφ] at hf; have hf : v = .bool b := hf; subst hf
    have hy : yielded ops a.tmps g = some b := by
      unfold yielded; have h1' : ok.dst = some d := h1; simp [hk', h1', hv]
    simp [Wanted, Region.wanted, hg, hy]
abbrev Step (P : Program) (ops : Array Oper) (Q : Exit → Act → World → Prop) (L : List (Value → World → Prop)) (i : Nat) (o : Oper) (a : Act) (w : World) : Prop :=
  wpOp P ops Q i (fun a' w' => ∃ v, a' = a.put o.dst v ∧ (L.getD i AnyV) v w' ∧ Gr w w') a w
theorem s_val (hi : ops[i]? = some o) (hw : Wanted ops o a) (φ : Value → World → Prop) (hφ : L.getD i AnyV = φ) (v : Value) (w' : World)
    (hrun : (execOp a.eval o).run P w = .ok (.value v) w') (h : φ v w') (hG : Gr w w') : Step P ops Q L i o a w := by
  subst hφ; unfold Step wpOp; unfold Wanted at hw; simp only [hi, hw, if_true, Oper.wp, hrun, Oper.upon]; exact .inl ⟨v, rfl, h, hG⟩
theorem s_is (hi : ops[i]? = some o) (hw : Wanted ops o a) (x : Value) (hφ : L.getD i AnyV = IsV x) (hrun : (execOp a.eval o).run P w = .ok (.value x) w) : Step P ops Q L i o a w :=
  s_val hi hw _ hφ x w hrun rfl (Gr.refl _)
theorem s_wp (hi : ops[i]? = some o) (hw : Wanted ops o a) (h : o.wp P a w (fun a' w' => ∃ v, a' = a.put o.dst v ∧ (L.getD i AnyV) v w' ∧ Gr w w') Q) : Step P ops Q L i o a w := by
  unfold Step wpOp; unfold Wanted at hw; simp only [hi, hw, if_true]; exact .inl h
theorem s_same (hi : ops[i]? = some o) (hw : Wanted ops o a) (x : Operand) (ho : o.op = .assign x ∨ o.op = .move x) (h : ∃ v, a.eval x = v ∧ (L.getD i AnyV) v w) : Step P ops Q L i o a w := by
  obtain ⟨v, e1, h⟩ := h; refine s_val hi hw _ rfl v w ?_ h (Gr.refl _); rcases ho with ho | ho <;> simp [execOp, ho, e1]
theorem s_old (hi : ops[i]? = some o) (hw : Wanted ops o a) (x : Operand) (ho : o.op = .assign x ∨ o.op = .move x) (v : Value) (e : a.eval x = v) (hφ : L.getD i AnyV = IsV v) : Step P ops Q L i o a w :=
  s_same hi hw x ho ⟨v, e, by rw [hφ]; rfl⟩
theorem s_pick (hi : ops[i]? = some o) (hw : Wanted ops o a) (c x y : Operand) (ho : o.op = .pick c x y) (hc : a.eval c = .bool true) (v : Value) (e : a.eval x = v) (hφ : L.getD i AnyV = IsV v) : Step P ops Q L i o a w := by
  refine s_is hi hw v hφ ?_; simp [execOp, ho, hc, e, asBool]
def RdV (n : Nat) (l : List UInt8) (v : Value) (w : World) : Prop := ∃ A c, v = .slice A n c ∧ n ≤ c ∧ Rd w A n (u8s l)
theorem RdV.gr {n : Nat} {l : List UInt8} {v : Value} {w w' : World} (h : RdV n l v w) (g : Gr w w') : RdV n l v w' := by
  obtain ⟨A, c, h1, h2, h3⟩ := h; exact ⟨A, c, h1, h2, g.rd h3⟩
theorem RdV.own {base : Nat} {e : TypeId} {n : Nat} {l : List UInt8} {v : Value} {w : World} (h : w.ownsRow base e 1 v n (u8s l)) : RdV n l v w := by
  obtain ⟨A, c, rfl, hc, _⟩ := own_form h; exact ⟨A, c, rfl, hc, Rd.of_own h⟩
theorem s_call (hi : ops[i]? = some o) (hw : Wanted ops o a) (φ : Value → World → Prop) (hφ : L.getD i AnyV = φ) (f : FuncId) (args : Array Value)
    (hrun : (execOp a.eval o).run P w = .ok (.enter f args) w) (hc : Calls P f args w fun e w' => ∃ v, e = .returned v ∧ φ v w' ∧ Gr w w') : Step P ops Q L i o a w := by
  subst hφ; refine s_wp hi hw ?_; simp only [Oper.wp, hrun, Oper.upon]; refine hc.mono ?_; rintro e w' ⟨v, rfl, h1, h2⟩; exact ⟨v, rfl, h1, h2⟩
end
end Go.Proofs.YtjpphldojbfpfaaGreatDoor
namespace Go.Proofs.YtjpphldojbfpfaaGreatDoor
open Go.RowKit
section
variable {P : Program} {ops : Array Oper} {Q : Exit → Act → World → Prop}
def domB (ops : Array Oper) (z : Nat) : Bool := (List.range z).all fun i => (List.range (z + 1)).any fun j => i < j && match ops[j]? with | some o => o.after.any (fun e => Region.binds .any e && e.on == i) | none => false
theorem all_listed {z : Nat} (hdom : domB ops z = true) {listed : Array Bool} (closed : ∀ i o e, ops[i]? = some o → listed.getD i false = true → e ∈ o.after → Region.binds .any e = true → listed.getD e.on false = true)
    (hz : listed.getD z false = true) : ∀ i, i ≤ z → listed.getD i false = true := by
  have key : ∀ d i, i + d = z → listed.getD i false = true := by
    intro d
    induction d using Nat.strongRecOn with
    | ind d ih =>
      intro i hi
      by_cases h0 : d = 0
      · have : i = z := by omega
        rw [this]; exact hz
      · have h1 := List.all_eq_true.1 hdom i (by simp; omega); rw [List.any_eq_true] at h1; obtain ⟨j, hj, h2⟩ := h1; simp only [List.mem_range] at hj; simp only [Bool.and_eq_true, decide_eq_true_eq] at h2; obtain ⟨h3, h4⟩ := h2; have hl := ih (z - j) (by omega) j (by omega); cases ho : ops[j]? with
        | none => rw [ho] at h4; cases h4
        | some o =>
          rw [ho] at h4; simp only [Array.any_eq_true'] at h4; obtain ⟨e, he, h5⟩ := h4; simp only [Bool.and_eq_true, beq_iff_eq] at h5; have := closed j o e ho hl he h5.1
          rwa [h5.2] at this
  intro i hi; exact key (z - i) i (by omega)
theorem wpAny_ssaS (a0 : Act) (w0 : World) (Φ : Nat → Value → World → Prop) (G : World → World → Prop) (z : Nat) (oz : Oper) (hz : ops.size = z + 1) (hoz : ops[z]? = some oz) (hzd : oz.dst = none) (hdom : domB ops z = true) (htrans : ∀ a b c, G a b → G b c → G a c)
    (hΦ : ∀ i v w w', Φ i v w → G w w' → Φ i v w') (hB : ssaB ops a0.tmps.size = true)
    (hstep : ∀ i o, ops[i]? = some o → i < z → ∀ a w, G w0 w → Finds ops Φ a0 i o a w → wpOp P ops Q i (fun a' w' => ∃ v, a' = a.put o.dst v ∧ Φ i v w' ∧ G w w') a w)
    (R : World → World → Prop) (hlast : ∀ a w, G w0 w → Finds ops Φ a0 z oz a w → wpOp P ops Q z (fun a' w' => ∃ v, a' = a.put oz.dst v ∧ R w w') a w)
    (hend : ∀ a w w', G w0 w → R w w' → (∀ i o, ops[i]? = some o → i < z → ∃ v, (∀ d, o.dst = some d → a.tmps[d]? = some v) ∧ Φ i v w) → a.defers = a0.defers → a.tmps.size = a0.tmps.size →
      (∀ t, (∀ i o, ops[i]? = some o → i < z → o.dst ≠ some t) → a.tmps[t]? = a0.tmps[t]?) → Q .normal a w') :
    ∀ (fuel : Nat) (listed : Array Bool) (a : Act) (w : World), listed.size = ops.size → unlisted ops listed = fuel → listed.getD z false = false → G w0 w → Ssa ops Φ a0 listed a w → wpAny P .any ops Q fuel listed a w := by
  have hb : ∀ i oi, ops[i]? = some oi → (∀ e ∈ oi.after, Region.binds .any e = true → e.on < i) ∧ (∀ d, oi.dst = some d → d < a0.tmps.size) ∧
      (∀ k ok d, k ≠ i → ops[k]? = some ok → ok.dst = some d → oi.dst ≠ some d ∧ (d ∈ oi.looksAt ops → oi.after.any (fun e => Region.binds .any e && e.on == k) = true ∨ ok.after.any (fun e => Region.binds .any e && e.on == i) = true)) := by
    intro i oi hi
    have hlt : i < ops.size := by
      rcases Nat.lt_or_ge i ops.size with h | h
      · exact h
      · rw [Array.getElem?_eq_none h] at hi; cases hi
    have h1 := List.all_eq_true.1 hB i (by simpa using hlt); rw [hi] at h1; simp only [Bool.and_eq_true] at h1; obtain ⟨⟨h2, h3⟩, h4⟩ := h1; refine ⟨fun e he => ?_, fun d hd => ?_, fun k ok d hk hok hd => ?_⟩
    · have h5 := (Array.all_eq_true'.1 h2) e he; intro hbe; simpa [hbe] using h5
    · rw [hd] at h3; simpa using h3
    · have hlt' : k < ops.size := by
        rcases Nat.lt_or_ge k ops.size with h | h
        · exact h
        · rw [Array.getElem?_eq_none h] at hok; cases hok
      have h5 := List.all_eq_true.1 h4 k (by simpa using hlt'); rw [hok] at h5; simp only [hd, Bool.or_eq_true, beq_iff_eq, hk, false_or, Bool.and_eq_true, bne_iff_ne, ne_eq, Bool.not_eq_true'] at h5; refine ⟨h5.1, fun hm => ?_⟩; rcases h5.2 with (h6 | h6) | h6
      · rw [List.contains_iff_mem.2 hm] at h6; cases h6
      · exact .inl h6
      · exact .inr h6
  intro fuel
  induction fuel with
  | zero =>
    intro listed a w hs hu hzu hG hI; exfalso
    have h0 : (List.range ops.size).filter (fun i => !listed.getD i false) = [] := List.eq_nil_of_length_eq_zero hu; have := List.filter_eq_nil_iff.1 h0 z (by simp; omega); simp [hzu] at this
  | succ fuel ih =>
    intro listed a w hs hu hzu hG hI; refine ⟨fun hr => ?_, fun i hi => ?_⟩
    · exfalso
      have hex : ∃ i, i < ops.size ∧ listed.getD i false = false := ⟨z, by omega, hzu⟩; obtain ⟨i, ⟨hi1, hi2⟩, hmin⟩ := exists_least hex
      have : i ∈ Region.ready .any ops listed := by
        rw [mem_ready]; refine ⟨by rw [getD_true_false listed i (by omega)]; exact hi2, _, Array.getElem?_eq_getElem hi1, fun e he hbe => ?_⟩; have h1 := (hb i _ (Array.getElem?_eq_getElem hi1)).1 e he hbe
        by_cases h2 : listed.getD e.on false = true
        · exact h2
        · exact absurd ⟨by omega, by simpa using h2⟩ (hmin e.on h1)
      rw [hr] at this; cases this
    · obtain ⟨hun, oi, hoi, hall⟩ := mem_ready.1 hi
      have hlt : i < ops.size := by
        rcases Nat.lt_or_ge i ops.size with h | h
        · exact h
        · rw [Array.getElem?_eq_none h] at hoi; cases hoi
      rw [getD_true_false listed i (by omega)] at hun; obtain ⟨b1, b2, b3⟩ := hb i oi hoi
      have hset : ∀ k, (listed.setIfInBounds i true).getD k false = (if k = i then true else listed.getD k false) := by
        intro k
        by_cases hk : k = i
        · subst hk; simp [Array.getD_eq_getD_getElem?, Array.getElem?_setIfInBounds_self_of_lt (by omega : k < listed.size)]
        · simp [Array.getD_eq_getD_getElem?, Array.getElem?_setIfInBounds_ne (Ne.symm hk), hk]
      have hdep : ∀ k, oi.after.any (fun e => Region.binds .any e && e.on == k) = true → listed.getD k false = true := by
        intro k hk; rw [Array.any_eq_true'] at hk; obtain ⟨e, he, hek⟩ := hk; simp only [Bool.and_eq_true, beq_iff_eq] at hek; rw [← hek.2]; exact hall e he hek.1
      have hF : Finds ops Φ a0 i oi a w := by
        refine ⟨hI.defers, hI.size, fun k ok d hok hd _ hk => ?_, fun d hd hno => ?_⟩
        · obtain ⟨v, hv, hφ⟩ := hI.new k ok hok (hdep k hk); exact ⟨v, hv d hd, hφ⟩
        · apply hI.old
          intro k ok hok hlk hkd
          by_cases hki : k = i
          · subst hki; rw [hun] at hlk; cases hlk
          · rcases (b3 k ok d hki hok hkd).2 hd with h1 | h1
            · rw [hno k ok hok hkd hki] at h1; cases h1
            · rw [Array.any_eq_true'] at h1; obtain ⟨e, he, hek⟩ := h1; simp only [Bool.and_eq_true, beq_iff_eq] at hek; have := hI.closed k ok e hok hlk he hek.1; rw [hek.2, hun] at this; cases this
      have hclosed' : ∀ k ok e, ops[k]? = some ok → (listed.setIfInBounds i true).getD k false = true → e ∈ ok.after → Region.binds .any e = true → (listed.setIfInBounds i true).getD e.on false = true := by
        intro k ok e hok hlk he hbe; rw [hset k] at hlk; rw [hset e.on]
        by_cases hki : k = i
        · subst hki; rw [hoi] at hok; injection hok with hok; subst hok
          split
          · rfl
          · exact hall e he hbe
        · rw [if_neg hki] at hlk; split
          · rfl
          · exact hI.closed k ok e hok hlk he hbe
      have hcount : unlisted ops (listed.setIfInBounds i true) = fuel := by
        unfold unlisted at hu ⊢
        have e1 : (List.range ops.size).filter (fun k => !(listed.setIfInBounds i true).getD k false) = ((List.range ops.size).filter fun k => !listed.getD k false).erase i := by
          rw [List.Nodup.erase_eq_filter (List.Pairwise.filter _ List.nodup_range), List.filter_filter]; apply List.filter_congr
          intro k _; rw [hset k]
          by_cases hk : k = i
          · simp [hk]
          · simp [hk]
        rw [e1, List.length_erase_of_mem (by rw [List.mem_filter]; exact ⟨by simpa using hlt, by simp [hun]⟩), hu]; omega
      by_cases hiz : i = z
      · subst hiz; rw [hoz] at hoi; injection hoi with hoi; subst hoi
        have hallL := all_listed hdom hclosed' (by rw [hset i]; simp)
        have hothers : ∀ k, k < i → listed.getD k false = true := by
          intro k hk; have := hallL k (by omega); rw [hset k, if_neg (by omega)] at this; exact this
        refine wpOp_mono (fun a' w' h => ?_) (hlast a w hG hF); obtain ⟨v, rfl, hR⟩ := h; have ha : a.put oz.dst v = a := by rw [hzd]; rfl
        rw [ha]
        have hf0 : fuel = 0 := by
          rw [← hcount]; unfold unlisted; rw [List.length_eq_zero_iff, List.filter_eq_nil_iff]; intro k hk; have := hallL k (by simp at hk; omega); simp [this]
        subst hf0; refine ⟨?_, hend a w w' hG hR (fun k ok hk hki => hI.new k ok hk (hothers k hki)) hI.defers hI.size fun t ht => hI.old t fun k o hk hl => ht k o hk ?_⟩
        · unfold Region.ready; rw [List.filter_eq_nil_iff]; intro k hk; simp only [List.mem_range] at hk; have := hallL k (by omega); rw [← getD_true_false _ k (by simp; omega)] at this; simp [this]
        · rcases Nat.lt_or_ge k i with h | h
          · exact h
          · exfalso
            have : k = i := by
              have : k < ops.size := by
                rcases Nat.lt_or_ge k ops.size with h | h
                · exact h
                · rw [Array.getElem?_eq_none h] at hk; cases hk
              omega
            subst this; rw [hun] at hl; cases hl
      · refine wpOp_mono (fun a' w' h => ?_) (hstep i oi hoi (by omega) a w hG hF); obtain ⟨v, rfl, hφ, hg⟩ := h
        have hput : ∀ t, oi.dst ≠ some t → (a.put oi.dst v).tmps[t]? = a.tmps[t]? := by
          intro t ht; cases hd : oi.dst with
          | none => rfl
          | some d =>
            have hne : d ≠ t := fun e => ht (by rw [hd, e]); simp [Act.put, Array.getElem?_setIfInBounds_ne hne]
        refine ih _ _ _ (by simp [hs]) hcount (by rw [hset z, if_neg (Ne.symm hiz)]; exact hzu) (htrans _ _ _ hG hg) ⟨?_, ?_, ?_, ?_, hclosed'⟩
        · cases hd : oi.dst <;> simp [Act.put, hI.defers]
        · cases hd : oi.dst <;> simp [Act.put, hI.size]
        · intro k ok hok hlk; rw [hset k] at hlk
          by_cases hki : k = i
          · subst hki; rw [hoi] at hok; injection hok with hok; subst hok
            refine ⟨v, fun d hd => ?_, hφ⟩; have := b2 d hd; rw [hd]; simp [Act.put, Array.getElem?_setIfInBounds_self_of_lt (by rw [hI.size]; exact this : d < a.tmps.size)]
          · rw [if_neg hki] at hlk; obtain ⟨u, hu1, hu2⟩ := hI.new k ok hok hlk; refine ⟨u, fun d hd => ?_, hΦ _ _ _ _ hu2 hg⟩; rw [hput d (b3 k ok d hki hok hd).1]; exact hu1 d hd
        · intro t ht; have h1 : oi.dst ≠ some t := ht i oi hoi (by rw [hset i]; simp); rw [hput t h1]; apply hI.old
          intro k ok hok hlk; exact ht k ok hok (by rw [hset k]; split <;> simp_all)
def Dr (w w' : World) : Prop := ∃ k, w' = w.drewN k
theorem Dr.refl (w : World) : Dr w w := ⟨0, rfl⟩
theorem Dr.trans {a b c : World} (h : Dr a b) (k : Dr b c) : Dr a c := by
  obtain ⟨m, rfl⟩ := h; obtain ⟨n, rfl⟩ := k; exact ⟨m + n, World.drewN_drewN _ _ _⟩
theorem Dr.cell {w w' : World} (h : Dr w w') (p : Addr) : w'.cell? p = w.cell? p := by obtain ⟨k, rfl⟩ := h; rfl
theorem Dr.frozen {w w' : World} (h : Dr w w') (p : Addr) : w'.frozen? p = w.frozen? p := by obtain ⟨k, rfl⟩ := h; rfl
theorem Dr.heap {w w' : World} (h : Dr w w') : w'.heap = w.heap := by obtain ⟨k, rfl⟩ := h; rfl
abbrev StepD (P : Program) (ops : Array Oper) (Q : Exit → Act → World → Prop) (L : List (Value → World → Prop)) (i : Nat) (o : Oper) (a : Act) (w : World) : Prop :=
  wpOp P ops Q i (fun a' w' => ∃ v, a' = a.put o.dst v ∧ (L.getD i AnyV) v w' ∧ Dr w w') a w
section
variable {L : List (Value → World → Prop)} {i : Nat} {o : Oper} {a a0 : Act} {w : World}
theorem d_is (hi : ops[i]? = some o) (hw : Wanted ops o a) (x : Value) (hφ : L.getD i AnyV = IsV x) (hrun : (execOp a.eval o).run P w = .ok (.value x) w) : StepD P ops Q L i o a w := by
  unfold StepD wpOp; unfold Wanted at hw; simp only [hi, hw, if_true, Oper.wp, hrun, Oper.upon, hφ]; exact .inl ⟨x, rfl, rfl, Dr.refl _⟩
theorem d_same (hi : ops[i]? = some o) (hw : Wanted ops o a) (x : Operand) (ho : o.op = .assign x ∨ o.op = .move x) (y : Value) (h : ∃ v, a.eval x = v ∧ IsV y v w) (hφ : L.getD i AnyV = IsV y) : StepD P ops Q L i o a w := by
  obtain ⟨v, e1, h⟩ := h; have h : v = y := h; subst h; refine d_is hi hw _ hφ ?_; rcases ho with ho | ho <;> simp [execOp, ho, e1]
theorem d_old (hi : ops[i]? = some o) (hw : Wanted ops o a) (x : Operand) (ho : o.op = .assign x ∨ o.op = .move x) (v : Value) (e : a.eval x = v) (hφ : L.getD i AnyV = IsV v) : StepD P ops Q L i o a w :=
  d_same hi hw x ho v ⟨v, e, rfl⟩ hφ
end
theorem wp_region_st {id : Nat} {a0 : Act} {w0 : World} (hm : P.follows .mixedOrders = true) (L : List (Value → World → Prop)) (z : Nat) (oz : Oper) (hz : ops.size = z + 1) (hoz : ops[z]? = some oz) (hzd : oz.dst = none) (hdom : domB ops z = true) (hB : ssaB ops a0.tmps.size = true)
    (hLv : ∀ φ ∈ L, ∃ x, φ = IsV x) (p : Addr) (u : Value)
    (hstep : AllFrom (fun i o => ∀ a w, Dr w0.drew w → Finds ops (fun i => L.getD i AnyV) a0 i o a w → StepD P ops Q L i o a w) 0 (ops.toList.take z))
    (hlast : ∀ a w, Dr w0.drew w → Finds ops (fun i => L.getD i AnyV) a0 z oz a w → Wanted ops oz a ∧ (execOp a.eval oz).run P w = .ok .skip (w.setCell p u))
    (hend : ∀ (vs : Nat → Value) k, (∀ i, i < z → (L.getD i AnyV) (vs i) w0) → Q .normal (putAll vs 0 ops.toList a0) ((w0.drewN k).setCell p u)) : (Code.region id ops true).wp P Q a0 w0 := by
  have hΦ : ∀ i v (w w' : World), (L.getD i AnyV) v w → (L.getD i AnyV) v w' := by
    intro i v w w' h; rcases Nat.lt_or_ge i L.length with hlt | hge
    · simp only [List.getD_eq_getElem?_getD, List.getElem?_eq_getElem hlt, Option.getD_some] at h ⊢; obtain ⟨x, hx⟩ := hLv _ (List.getElem_mem hlt); rw [hx] at h ⊢; exact h
    · simp only [List.getD_eq_getElem?_getD, List.getElem?_eq_none hge, Option.getD_none] at h ⊢; exact trivial
  refine wp_region_any hm (wpAny_ssaS a0 w0.drew (fun i => L.getD i AnyV) Dr z oz hz hoz hzd hdom (fun _ _ _ => Dr.trans) (fun i v w w' h _ => hΦ i v w w' h) hB ?_ (fun w w' => w' = w.setCell p u) ?_ ?_ ops.size (Array.replicate ops.size false) a0 w0.drew (by simp) ?_ ?_ (Dr.refl _) ⟨rfl, rfl, ?_, fun _ _ => rfl, ?_⟩)
  · intro i o hi hiz a w hg hF; have h1 := allFrom_get (ops.toList.take z) 0 hstep i o (by rw [List.getElem?_take]; simp [hiz, hi]); simp only [Nat.zero_add] at h1; exact h1 a w hg hF
  · intro a w hg hF; obtain ⟨h1, h2⟩ := hlast a w hg hF; unfold wpOp; unfold Wanted at h1; simp only [hoz, h1, if_true, Oper.wp, h2, Oper.upon]; exact .inl ⟨undef, rfl, trivial⟩
  · rintro a w w' ⟨k, rfl⟩ rfl hnew hdef hsize hold
    have hch : ∀ i, ∃ v, i < z → (∀ d, ((ops[i]?).bind (fun o : Oper => o.dst)) = some d → a.tmps[d]? = some v) ∧ (L.getD i AnyV) v w0 := by
      intro i
      by_cases hi : i < z
      · obtain ⟨v, h1, h2⟩ := hnew i _ (Array.getElem?_eq_getElem (by omega : i < ops.size)) hi; exact ⟨v, fun _ => ⟨fun d hd => h1 d (by simpa [(by omega : i < ops.size)] using hd), hΦ _ _ _ _ h2⟩⟩
      · exact ⟨undef, fun h => absurd h hi⟩
    have hvs := fun i => Classical.choose_spec (hch i); have hend' := hend (fun i => Classical.choose (hch i)) (1 + k) fun i hi => (hvs i hi).2
    have ha : putAll (fun i => Classical.choose (hch i)) 0 ops.toList a0 = a := by
      have h1 := putAll_defers (fun i => Classical.choose (hch i)) ops.toList 0 a0; have h2 := putAll_size (fun i => Classical.choose (hch i)) ops.toList 0 a0
      have h3 : (putAll (fun i => Classical.choose (hch i)) 0 ops.toList a0).tmps = a.tmps := by
        apply Array.ext_getElem?
        intro t
        by_cases hex : ∃ (j : Nat) (o : Oper), ops[j]? = some o ∧ o.dst = some t
        · obtain ⟨j, o, hj, hd⟩ := hex
          have hlt : j < ops.size := by
            rcases Nat.lt_or_ge j ops.size with h | h
            · exact h
            · rw [Array.getElem?_eq_none h] at hj; cases hj
          have hjz : j < z := by
            rcases Nat.lt_or_ge j z with h | h
            · exact h
            · exfalso
              have : j = z := by omega
              subst this; rw [hoz] at hj; injection hj with hj; subst hj
              rw [hzd] at hd; cases hd
          have hb := List.all_eq_true.1 hB j (by simpa using hlt); rw [hj] at hb; simp only [Bool.and_eq_true, hd, decide_eq_true_eq] at hb; rw [putAll_new _ t ops.toList 0 a0 j o (by simpa using hj) hd hb.1.2 fun k o' hk hd' => ?_, (hvs j hjz).1 t (by rw [hj]; exact hd)]
          · simp
          · rcases Nat.decEq k j with hkj | hkj
            · exfalso
              have hk' : ops[k]? = some o' := by simpa using hk
              have hltk : k < ops.size := by
                rcases Nat.lt_or_ge k ops.size with h | h
                · exact h
                · rw [Array.getElem?_eq_none h] at hk'; cases hk'
              have h5 := List.all_eq_true.1 hb.2 k (by simpa using hltk); rw [hk'] at h5; simp [hkj, hd'] at h5
            · exact hkj
        · rw [putAll_old _ t ops.toList 0 a0 (fun (o : Oper) ho e => hex (by obtain ⟨j, hj⟩ := List.getElem?_of_mem ho; exact ⟨j, o, by simpa using hj, e⟩)), hold t fun i o hi _ e => hex ⟨i, o, hi, e⟩]
      have h4 := hdef; cases a; cases hq : putAll (fun i => Classical.choose (hch i)) 0 ops.toList a0; rw [hq] at h1 h3; simp only at h1 h3 h4; rw [h1, h3, h4]
    rw [← ha]; rw [World.drewN_drew]; exact hend'
  · unfold unlisted; rw [List.filter_eq_self.2]
    · simp
    · intro i hi; simp only [List.mem_range] at hi; simp [hi]
  · rw [Array.getD_eq_getD_getElem?, Array.getElem?_replicate]; split <;> simp
  · intro i o hi hl; exfalso
    rw [Array.getD_eq_getD_getElem?, Array.getElem?_replicate] at hl; split at hl <;> simp at hl
  · intro i o e hi hl; exfalso
    rw [Array.getD_eq_getD_getElem?, Array.getElem?_replicate] at hl; split at hl <;> simp at hl
end
end Go.Proofs.YtjpphldojbfpfaaGreatDoor
namespace Go.Proofs.YtjpphldojbfpfaaGreatDoor
open Go.RowKit
def u32s (l : List UInt32) : List Value := l.map fun c => .int .u32 (c.toNat : Int)
@[simp] theorem u32s_length (l : List UInt32) : (u32s l).length = l.length := by simp [u32s]
theorem u32s_at {l : List UInt32} {i : Nat} {x : UInt32} (h : l[i]? = some x) : (u32s l)[i]? = some (.int .u32 (x.toNat : Int)) := by simp [u32s, h]
theorem u32s_set (l : List UInt32) (i : Nat) (x : UInt32) : (u32s l).set i (.int .u32 (x.toNat : Int)) = u32s (l.set i x) := by simp [u32s, List.map_set]
theorem u32s_oneCell (l : List UInt32) : ∀ u ∈ u32s l, u.oneCell' = true := by
  intro u hu; simp only [u32s, List.mem_map] at hu; obtain ⟨c, _, rfl⟩ := hu; rfl
def Arr (w : World) (g : Nat) (t : TypeId) (cs : List Value) : Prop := w.heap[g]? = some (.cells cs.toArray t (0, 0))
section
variable {w w' : World} {g i : Nat} {t : TypeId} {cs : List Value}
theorem Arr.lt (h : Arr w g t cs) : g < w.heap.size := by
  rcases Nat.lt_or_ge g w.heap.size with h1 | h1
  · exact h1
  · unfold Arr at h; rw [Array.getElem?_eq_none h1] at h; cases h
theorem Arr.cell (h : Arr w g t cs) {v : Value} (hi : cs[i]? = some v) : w.cell? ⟨g, i, none⟩ = some v := by
  rw [cell_of_row w g i _ t _ h]; simpa using hi
theorem Arr.frozen (h : Arr w g t cs) (i : Nat) : w.frozen? ⟨g, i, none⟩ = false := frozen_of_row w g i _ t h
theorem Arr.set (h : Arr w g t cs) (i : Nat) (v : Value) : Arr (w.setCell ⟨g, i, none⟩ v) g t (cs.set i v) := by
  unfold Arr; rw [heap_setCell_same w g i _ t v h]; simp
theorem Arr.other (h : Arr w g t cs) {a : Addr} (hne : g ≠ a.block) (v : Value) : Arr (w.setCell a v) g t cs := by
  unfold Arr; rw [heap_setCell_other w a g v hne]; exact h
theorem Arr.below (h : Arr w g t cs) {B : Nat} (hb : Below B w w') (hg : g < B) : Arr w' g t cs := by
  unfold Arr; rw [hb.block g hg]; exact h
theorem Arr.gr (h : Arr w g t cs) (hb : Gr w w') : Arr w' g t cs := h.below hb h.lt
theorem Arr.dr (h : Arr w g t cs) (hb : Dr w w') : Arr w' g t cs := by unfold Arr; rw [hb.heap]; exact h
theorem Arr.new' (w : World) (t : TypeId) (C : Array Value) : Arr (w.alloc (.cells C t)) w.heap.size t C.toList := by
  unfold Arr World.alloc; simp
theorem asz (w : World) (o : Obj) : (w.alloc o).heap.size = w.heap.size + 1 := World.size_alloc w o
theorem Arr.newAt {w : World} {t : TypeId} {C : Array Value} {n : Nat} {l : List Value} (h : w.heap.size = n) (hl : C.toList = l) : Arr (w.alloc (.cells C t)) n t l := by
  subst h hl; exact Arr.new' w t C
theorem Arr.alloc (h : Arr w g t cs) (o : Obj) : Arr (w.alloc o) g t cs := h.gr (Gr.alloc w o)
theorem Arr.range (h : Arr w g t cs) : w.rangeAt g 0 cs := fun j v hv => by
  rw [Nat.zero_add]; exact h.cell hv
theorem Arr.there (h : Arr w g t cs) : w.there g 0 cs.length := fun j hj => by
  rw [Nat.zero_add]; exact ⟨by rw [h.cell (List.getElem?_eq_getElem hj)]; rfl, h.frozen j⟩
theorem Arr.setCells_from (vs : List Value) : ∀ (o : Nat) (w : World) (cs : List Value), Arr w g t cs → o + vs.length ≤ cs.length → Arr (w.setCells g o vs) g t (cs.take o ++ vs ++ cs.drop (o + vs.length)) := by
  induction vs with
  | nil => intro o w cs h ho; simpa [World.setCells] using h
  | cons v vs ih =>
    intro o w cs h ho; have h1 := ih (o + 1) _ _ (h.set o v) (by simp at ho ⊢; omega)
    have e : (cs.set o v).take (o + 1) ++ vs ++ (cs.set o v).drop (o + 1 + vs.length) = cs.take o ++ (v :: vs) ++ cs.drop (o + (v :: vs).length) := by
      simp at ho; rw [List.take_succ_eq_append_getElem (by simp; omega), List.take_set_of_le (by omega), List.drop_set_of_lt (by omega)]; simp; congr 1; omega
    rw [e] at h1; exact h1
theorem Arr.setAll (h : Arr w g t cs) (vs : List Value) (hl : vs.length = cs.length) : Arr (w.setCells g 0 vs) g t vs := by
  have := Arr.setCells_from vs 0 w cs h (by omega); simpa [hl] using this
theorem Arr.setCells_other (h : Arr w g t cs) {g' : Nat} (hne : g ≠ g') (vs : List Value) : ∀ (o : Nat), Arr (w.setCells g' o vs) g t cs := by
  induction vs generalizing w with
  | nil => intro o; exact h
  | cons v vs ih => intro o; exact ih (h.other hne v) (o + 1)
theorem Arr.rd (h : Arr w g t cs) (lo n : Nat) (hn : lo + n ≤ cs.length) : Rd w (some ⟨g, lo, none⟩) n ((cs.drop lo).take n) := by
  have := Rd.of_row (w := w) (g := g) h lo n (by simpa using hn); simpa using this
theorem below_setCell {w : World} {B : Nat} {a : Addr} {v : Value} (h : B ≤ a.block) : Below B w (w.setCell a v) :=
  ⟨rfl, rfl, rfl, by simp [World.setCell], fun k hk => heap_setCell_other w a k v (by omega)⟩
theorem below_setCells {B g : Nat} (h : B ≤ g) (vs : List Value) : ∀ (w : World) (o : Nat), Below B w (w.setCells g o vs) := by
  induction vs with
  | nil => intro w o; exact Below.refl _ _
  | cons v vs ih => intro w o; exact (below_setCell (a := ⟨g, o, none⟩) h).trans (ih _ _)
theorem below_dr {B : Nat} (h : Dr w w') : Below B w w' := by obtain ⟨k, rfl⟩ := h; exact ⟨rfl, rfl, rfl, Nat.le_refl _, fun _ _ => rfl⟩
end
end Go.Proofs.YtjpphldojbfpfaaGreatDoor
namespace Go.Proofs.YtjpphldojbfpfaaGreatDoor
open Go.RowKit
section
variable {P : Program} {ev : Operand → Value} {d : Option Tmp} {t T U : TypeId} {s : String} {af : Array Edge} {gd : Option (Nat × Bool)} {w : World} {x y : Operand}
theorem wrap_add32 (a b : UInt32) : IntKind.u32.wrap ((a.toNat : Int) + b.toNat) = ((a + b).toNat : Int) := by
  rw [IntKind.wrap_u32', UInt32.toNat_add]; omega
theorem xor32 (a b : UInt32) : bits .xor .u32 (a.toNat : Int) b.toNat = ((a ^^^ b).toNat : Int) := by
  rw [u32_xor_nat _ _ a.toNat_lt b.toNat_lt, UInt32.toNat_xor]
theorem and32 (a b : UInt32) : bits .and .u32 (a.toNat : Int) b.toNat = ((a &&& b).toNat : Int) := by
  rw [u32_and_nat _ _ a.toNat_lt b.toNat_lt, UInt32.toNat_and]
theorem run_add32 {a b : UInt32} (h1 : ev x = .int .u32 a.toNat) (h2 : ev y = .int .u32 b.toNat) : (execOp ev ⟨d, .binOp .add T x y U, t, s, af, gd⟩).run P w = .ok (.value (.int .u32 (a + b).toNat)) w := by
  simp only [execOp, h1, h2]; go_simp; exact wrap_add32 a b
theorem run_xor32 {a b : UInt32} (h1 : ev x = .int .u32 a.toNat) (h2 : ev y = .int .u32 b.toNat) : (execOp ev ⟨d, .binOp .xor T x y U, t, s, af, gd⟩).run P w = .ok (.value (.int .u32 (a ^^^ b).toNat)) w := by
  simp only [execOp, h1, h2]; go_simp; exact xor32 a b
theorem run_and32 {a b : UInt32} (h1 : ev x = .int .u32 a.toNat) (h2 : ev y = .int .u32 b.toNat) : (execOp ev ⟨d, .binOp .and T x y U, t, s, af, gd⟩).run P w = .ok (.value (.int .u32 (a &&& b).toNat)) w := by
  simp only [execOp, h1, h2]; go_simp; exact and32 a b
theorem run_nil {p : Addr} (h : ev x = .pointer (some p)) : (execOp ev ⟨d, .nilCheck x, t, s, af, gd⟩).run P w = .ok (.value (.pointer (some p))) w := by
  simp only [execOp, h]; rfl
theorem run_size1 {e : TypeId} (hi : (P.info? e).map (·.size) = some 1) (w : World) : (sizeOf e).run P w = .ok 1 w := by
  cases hq : P.info? e with
  | none => simp [hq] at hi
  | some i =>
    have hs : i.size = 1 := by simpa [hq] using hi
    simp [sizeOf, typeInfo, hq, hs]
theorem run_idx {g n : Nat} {i : Nat} {e : TypeId} (hT : P.underlying T = some (.array n e)) (hsz : (P.info? e).map (·.size) = some 1) (h1 : ev x = .pointer (some ⟨g, 0, none⟩)) (h2 : ev y = .int .i64 i) (hi : i < n) :
    (execOp ev ⟨d, .indexAddr T x y, t, s, af, gd⟩).run P w = .ok (.value (.pointer (some ⟨g, i, none⟩))) w := by
  simp only [execOp, h1, h2]; go_simp; simp [run_size1 hsz]
theorem run_load1 {k : IntKind} {p : Addr} {v : Value} (hT : P.underlying T = some (.int k)) (h1 : ev x = .pointer (some p)) (hc : w.cell? p = some v) : (execOp ev ⟨d, .load T x, t, s, af, gd⟩).run P w = .ok (.value v) w := by
  have ha : (isAgg T).run P w = .ok false w := by simp [isAgg, run_underlying hT]
  simp only [execOp, h1]; go_simp
theorem run_store1 {p : Addr} {k : IntKind} {z : Int} (hT : (P.info? T).map (·.size) = some 1) (h1 : ev x = .pointer (some p)) (h2 : ev y = .int k z) (hc : (w.cell? p).isSome = true) (hf : w.frozen? p = false) : (execOp ev ⟨d, .store T x y, t, s, af, gd⟩).run P w = .ok .skip (w.setCell p (.int k z)) := by
  obtain ⟨v, hv⟩ := Option.isSome_iff_exists.1 hc; simp only [execOp, h1, h2]; go_simp; simp [run_size1 hT, hv, hf]
end
end Go.Proofs.YtjpphldojbfpfaaGreatDoor
namespace Go.Proofs.YtjpphldojbfpfaaGreatDoor
open Go.RowKit
section
variable {P : Program} {T e : TypeId} {n : Nat}
theorem arrayLen_of (hT : P.underlying T = some (.array n e)) : P.arrayLen T = n ∧ P.elem T = e := by
  simp [Program.arrayLen, Program.elem, hT]
theorem run_cutAll (hT : P.underlying T = some (.array n e)) (hsz : (P.info? e).map (·.size) = some 1) (g : Nat) (w : World) :
    (Instr.sliceAt T (.pointer (some ⟨g, 0, none⟩)) none none none).run P w = .ok (.slice (some ⟨g, 0, none⟩) n n) w := by
  obtain ⟨e1, e2⟩ := arrayLen_of hT; rw [run_sliceAt_array_all w T _ (by rw [e1, e2]; exact hT), e1, e2]; simp only [run_size1 hsz, Result.andThen_ok, slicedAt, Nat.sub_zero, Nat.zero_mul, add_zero_, ite_self]
theorem Arr.loadAt {w : World} {g : Nat} {t : TypeId} {cs : List Value} (h : Arr w g t cs) (hT : P.underlying T = some (.array n e)) (hi : (P.info? T).map (·.size) = some cs.length) :
    (Instr.loadAt T (.pointer (some ⟨g, 0, none⟩))).run P w = .ok (.agg cs.toArray) w := run_loadAt_mid w g 0 T cs _ h.range hT rfl hi
theorem run_indexA {k : IntKind} (hT : P.underlying T = some (.array n e)) (hE : P.underlying e = some (.int k)) (hsz : (P.info? e).map (·.size) = some 1) {C : List Value} {i : Nat} {v : Value} (hv : C[i]? = some v) (hi : i < n) (w : World) :
    (Instr.index T (.agg C.toArray) (.int .i64 i)).run P w = .ok v w := by
  simp [Instr.index, run_underlying hT, asIntOf, hi, run_size1 hsz, part, isAgg, run_underlying hE, hv]
theorem run_arrAt (hT : P.underlying T = some (.array n e)) {A : Option Addr} {len c : Nat} (h : n ≤ len) (w : World) :
    (Instr.arrayAt T (.slice A len c)).run P w = .ok (.pointer A) w := by
  simp [Instr.arrayAt, run_underlying hT, show ¬ len < n by omega]
theorem there_new (w : World) (t : TypeId) (C : Array Value) (n : Nat) (hn : C.size = n) (b : Nat) (hb : b = w.heap.size) : (w.alloc (.cells C t)).there b 0 n := by
  subst hn hb; have := (Arr.new' w t C).there; simpa using this
theorem Arr.newSet {w : World} {t : TypeId} {C : Array Value} {b : Nat} {vs : List Value} (hb : w.heap.size = b) (hl : vs.length = C.size) : Arr ((w.alloc (.cells C t)).setCells b 0 vs) b t vs := by
  subst hb; exact (Arr.new' w t C).setAll vs (by simpa using hl)
theorem wpList_new {ops : Array Oper} {rest : List Oper} {op : Oper} {a : Act} {Q : Exit → Act → World → Prop} {w : World} {C : Array Value} {t : TypeId} (hgd : op.guard = none) (ty : TypeId) (x y : Operand) (ho : op.op = .store ty x y)
    (b : Nat) (vs : List Value) (hx : a.eval x = .pointer (some ⟨b, 0, none⟩)) (hy : a.eval y = .agg vs.toArray) (hb : b = w.heap.size) (hn : C.size = vs.length)
    (hi : (P.info? ty).map (·.size) = some vs.length) (h1 : ∀ v ∈ vs, v.oneCell' = true)
    (h : ∀ w2, Arr w2 b t vs → Gr w w2 → wpList P ops Q rest (a.put op.dst undef) w2) : wpList P ops Q (op :: rest) a (w.alloc (.cells C t)) := by
  subst hb; refine wpList_store_mid hgd ty x y ho w.heap.size 0 vs.toArray hx hy (there_new _ _ _ _ (by simpa using hn) _ rfl) (by simpa using hi) (all_oneCell_toArray h1) ?_; exact h _ (Arr.newSet rfl (by simpa using hn.symm)) (((Below.refl _ _).alloc (Nat.le_refl _) _).trans (below_setCells (Nat.le_refl _) _ _ _))
end
end Go.Proofs.YtjpphldojbfpfaaGreatDoor
namespace Go.Proofs.YtjpphldojbfpfaaGreatDoor
open Go.RowKit
theorem putHigh_k (x k : Nat) (hx : x < 18446744073709551616) (hk : k ≤ 64) (w : World) :
    Calls Tryz.prog 43 #[.int .u64 x, .int .i64 k] w fun e w' => ∃ v, e = .returned v ∧
      w'.ownsRow w.heap.size 5 1 v k (u8s (leBytes k x).reverse) ∧ Below w.heap.size w w' := by
  have h := putHigh_any x hx k w
  rwa [show (min (k : Int) 64).toNat = k by omega] at h
end Go.Proofs.YtjpphldojbfpfaaGreatDoor
namespace Go.Proofs.YtjpphldojbfpfaaGreatDoor
open Go.RowKit
def mixL (a b : List UInt8) : List UInt8 := List.zipWith (· ^^^ ·) a b
theorem mixL_snoc (a b : List UInt8) (k : Nat) (x y : UInt8) (hx : a[k]? = some x) (hy : b[k]? = some y) : mixL (a.take (k + 1)) (b.take (k + 1)) = mixL (a.take k) (b.take k) ++ [x ^^^ y] := by
  rw [take_snoc_ a k x hx, take_snoc_ b k y hy]; unfold mixL; rw [List.zipWith_append]
  · rfl
  · have h1 : k < a.length := by rcases Nat.lt_or_ge k a.length with h | h; exact h; rw [List.getElem?_eq_none h] at hx; cases hx
    have h2 : k < b.length := by rcases Nat.lt_or_ge k b.length with h | h; exact h; rw [List.getElem?_eq_none h] at hy; cases hy
    simp; omega
def diffL (a b : List UInt8) : UInt8 := (List.zipWith (· ^^^ ·) a b).foldl (· ||| ·) 0
theorem diffL_snoc (a b : List UInt8) (k : Nat) (x y : UInt8) (hx : a[k]? = some x) (hy : b[k]? = some y) : diffL (a.take (k + 1)) (b.take (k + 1)) = diffL (a.take k) (b.take k) ||| (x ^^^ y) := by
  have h := mixL_snoc a b k x y hx hy; unfold mixL at h; unfold diffL; rw [h, List.foldl_append]; rfl
theorem or_zero_iff (x y : UInt8) : x ||| y = 0 ↔ x = 0 ∧ y = 0 := by
  rw [← UInt8.toNat_inj, UInt8.toNat_or, ← UInt8.toNat_inj, ← UInt8.toNat_inj]; simp
theorem xor_zero_iff (x y : UInt8) : x ^^^ y = 0 ↔ x = y := by
  rw [← UInt8.toNat_inj, UInt8.toNat_xor, ← UInt8.toNat_inj]; constructor
  · intro h; apply Nat.eq_of_testBit_eq
    intro i; have h1 := congrArg (·.testBit i) h; simp only [Nat.testBit_xor] at h1
    revert h1
    cases x.toNat.testBit i <;> cases y.toNat.testBit i <;> simp
  · intro h; rw [h, Nat.xor_self]; rfl
theorem foldl_or_zero : ∀ (l : List UInt8) (c : UInt8), l.foldl (· ||| ·) c = 0 ↔ c = 0 ∧ ∀ x ∈ l, x = 0
  | [], c => by simp
  | x :: l, c => by simp only [List.foldl_cons, foldl_or_zero l, or_zero_iff, List.mem_cons, forall_eq_or_imp, and_assoc]
theorem diffL_zero : ∀ (a b : List UInt8), a.length = b.length → (diffL a b = 0 ↔ a = b)
  | [], [], _ => by simp [diffL]
  | [], _ :: _, h => by simp at h
  | _ :: _, [], h => by simp at h
  | x :: a, y :: b, h => by
    have ih := diffL_zero a b (by simpa using h); unfold diffL at ih ⊢; simp only [List.zipWith_cons_cons, List.foldl_cons, foldl_or_zero, or_zero_iff, xor_zero_iff, true_and, List.cons.injEq] at ih ⊢; rw [ih]
set_option maxRecDepth 100000 in
set_option maxHeartbeats 400000 in
theorem same_any (A B : Option Addr) (n c d : Nat) (a b : List UInt8) (hn : n ≤ 1000000) (w : World) (ha : Rd w A n (u8s a)) (hb : Rd w B n (u8s b)) :
    Calls Tryz.prog 136 #[.slice A n c, .slice B n d] w fun e w' => e = .returned (.bool (decide (a = b))) ∧ ∃ k, w' = w.drewN k := by
  have hal : a.length = n := by simpa using ha.1
  have hbl : b.length = n := by simpa using hb.1
  go_enter Tryz.func136, Tryz.ntmps136
  go_wp2
  go_loopw [5, 14] (fun v i wr => ∃ k q : Nat, k ≤ n ∧ i = .int .i64 k ∧ v = .int .u8 q ∧ Hid (q = (diffL (a.take k) (b.take k)).toNat) ∧ ∃ j, wr = w.drewN j)
    (fun _ i _ => n - (intOf i).toNat)
  case atStart => exact ⟨0, 0, Nat.zero_le _, rfl, rfl, rfl, 0, rfl⟩
  case round =>
    obtain ⟨k, q, hk, rfl, rfl, hq, j, rfl⟩ := hrel
    by_cases hlt : k < n
    · obtain ⟨ad, x, rfl, hx, hc⟩ := rd_byte ha (show k < n by omega); obtain ⟨bd, y, rfl, hy, hd⟩ := rd_byte hb (show k < n by omega); have hxb := x.toNat_lt; have hyb := y.toNat_lt; have hqb : q < 256 := by rw [hq.out]; exact (diffL (a.take k) (b.take k)).toNat_lt
      have exy : bits .xor .u8 (x.toNat : Int) (y.toNat : Int) = ((x ^^^ y).toNat : Int) := by rw [u8_xor_nat _ _ hxb hyb, UInt8.toNat_xor]
      have hxy := (x ^^^ y).toNat_lt; rw [UInt8.toNat_xor] at hxy exy; have eor : bits .or .u8 (q : Int) ((x.toNat ^^^ y.toNat : Nat) : Int) = ((q ||| (x.toNat ^^^ y.toNat) : Nat) : Int) := u8_or_nat _ _ hqb hxy
      have HQ : Hid ((q ||| (x.toNat ^^^ y.toNat)) = (diffL (a.take (k + 1)) (b.take (k + 1))).toNat) := by
        show _ = _; rw [diffL_snoc a b k x y hx hy, UInt8.toNat_or, UInt8.toNat_xor, hq.out]
      have hlti : (k : Int) < n := by omega
      clear hx hy hal hbl
      go_wp2
      go_quiet (fail)
      go_wp2
      go_roundw
      case rel => exact ⟨k + 1, _, by omega, by go_num, rfl, HQ, _, rfl⟩
      case measure => simp [intOf]; omega
    · obtain rfl : k = n := by omega
      go_wp2
      go_ret
      have he : ((q : Int) == 0) = decide (a = b) := by
        have h0 := diffL_zero a b (by omega); have h1 := hq.out; rw [List.take_of_length_le (by omega), List.take_of_length_le (by omega)] at h1; rw [Bool.eq_iff_iff, beq_iff_eq, decide_eq_true_eq, ← h0, ← UInt8.toNat_inj, ← h1]; simp
      exact ⟨by rw [← he]; rfl, _, rfl⟩
end Go.Proofs.YtjpphldojbfpfaaGreatDoor
namespace Go.Proofs.YtjpphldojbfpfaaGreatDoor
open Go.RowKit
end Go.Proofs.YtjpphldojbfpfaaGreatDoor
namespace Go.Proofs.YtjpphldojbfpfaaGreatDoor
open Go.RowKit
section
variable {P : Program} {T e : TypeId} {n : Nat}
theorem wpList_put {ops : Array Oper} {rest : List Oper} {op : Oper} {a : Act} {Q : Exit → Act → World → Prop} {w : World} {t : TypeId} {b : Nat} {cs : List Value} (hA : Arr w b t cs) (hgd : op.guard = none) (ty : TypeId) (x y : Operand) (ho : op.op = .store ty x y)
    (vs : List Value) (hx : a.eval x = .pointer (some ⟨b, 0, none⟩)) (hy : a.eval y = .agg vs.toArray) (hn : cs.length = vs.length)
    (hi : (P.info? ty).map (·.size) = some vs.length) (h1 : ∀ v ∈ vs, v.oneCell' = true)
    (h : ∀ w2, Arr w2 b t vs → Below b w w2 → (∀ g t' cs', g ≠ b → Arr w g t' cs' → Arr w2 g t' cs') → wpList P ops Q rest (a.put op.dst undef) w2) : wpList P ops Q (op :: rest) a w := by
  refine wpList_store_mid hgd ty x y ho b 0 vs.toArray hx hy (by have := hA.there; rw [hn] at this; simpa using this) (by simpa using hi) (all_oneCell_toArray h1) ?_; exact h _ (hA.setAll vs hn.symm) (below_setCells (Nat.le_refl _) _ _ _) (fun g t' cs' hg hA' => hA'.setCells_other hg _ _)
section
variable {ev : Operand → Value} {d : Option Tmp} {t U S : TypeId} {s : String} {af : Array Edge} {gd : Option (Nat × Bool)} {w : World} {x y : Operand}
end
end
end Go.Proofs.YtjpphldojbfpfaaGreatDoor
namespace Go.Proofs.YtjpphldojbfpfaaGreatDoor
open Go.RowKit
section
variable {P : Program} {ops : Array Oper} {Q : Exit → Act → World → Prop}
def tailB (ops : Array Oper) (z : Nat) : Bool := (List.range ops.size).all fun i => !(decide (z < i)) || match ops[i]? with | some o => o.after.any (fun e => Region.binds .any e && e.on == i - 1) | none => true
theorem tailB_at {z i : Nat} {o : Oper} (h : tailB ops z = true) (hi : z < i) (ho : ops[i]? = some o) : o.after.any (fun e => Region.binds .any e && e.on == i - 1) = true := by
  have hlt : i < ops.size := by
    rcases Nat.lt_or_ge i ops.size with h | h
    · exact h
    · rw [Array.getElem?_eq_none h] at ho; cases ho
  have := List.all_eq_true.1 h i (by simpa using hlt); rw [ho] at this; simpa [hi] using this
theorem drop_at {j : Nat} {o : Oper} (h : ops[j]? = some o) : ops.toList.drop j = o :: ops.toList.drop (j + 1) := by
  have hlt : j < ops.size := by
    rcases Nat.lt_or_ge j ops.size with h' | h'
    · exact h'
    · rw [Array.getElem?_eq_none h'] at h; cases h
  rw [List.drop_eq_getElem_cons (by simpa using hlt)]; congr 1
  simpa [hlt] using h
theorem unlisted_at {listed : Array Bool} {j : Nat} (hj : j ≤ ops.size) (h1 : ∀ k, k < j → listed.getD k false = true) (h2 : ∀ k, j ≤ k → listed.getD k false = false) : unlisted ops listed = ops.size - j := by
  unfold unlisted
  have e : List.range ops.size = List.range j ++ (List.range (ops.size - j)).map (j + ·) := by
    rw [← List.range_add]; congr 1; omega
  rw [e, List.filter_append, List.filter_eq_nil_iff.2, List.nil_append, List.filter_eq_self.2]
  · simp
  · intro k hk; simp only [List.mem_map, List.mem_range] at hk; obtain ⟨m, _, rfl⟩ := hk; simp [h2 (j + m) (by omega)]
  · intro k hk; simp [h1 k (by simpa using hk)]
theorem wpAny_chain {z : Nat} (htail : tailB ops z = true) (hlow : ∀ i (o : Oper) (e : Edge), ops[i]? = some o → e ∈ o.after → Region.binds .any e = true → e.on < i) :
    ∀ (fuel j : Nat) (listed : Array Bool), listed.size = ops.size → fuel = ops.size - j → z < j → (∀ k, k < j → k < ops.size → listed.getD k false = true) → (∀ k, j ≤ k → listed.getD k false = false) →
      ∀ a w, wpList P ops Q (ops.toList.drop j) a w → wpAny P .any ops Q fuel listed a w := by
  intro fuel
  induction fuel with
  | zero =>
    intro j listed hs hf hz h1 h2 a w h; refine ⟨?_, ?_⟩
    · unfold Region.ready; rw [List.filter_eq_nil_iff]; intro k hk; simp only [List.mem_range] at hk; have := h1 k (by omega) hk; rw [← getD_true_false _ k (by omega)] at this; simp [this]
    · rw [List.drop_of_length_le (by simp; omega)] at h; exact h
  | succ fuel ih =>
    intro j listed hs hf hz h1 h2 a w h; have hj : j < ops.size := by omega
    have hoj := Array.getElem?_eq_getElem hj
    have hin : j ∈ Region.ready .any ops listed := by
      rw [mem_ready]; refine ⟨by rw [getD_true_false _ _ (by omega)]; exact h2 j (Nat.le_refl _), _, hoj, fun e he hbe => ?_⟩; have := hlow j _ e hoj he hbe; exact h1 e.on this (by omega)
    refine ⟨fun hr => ?_, fun i hi => ?_⟩
    · rw [hr] at hin; cases hin
    · obtain ⟨hun, oi, hoi, hall⟩ := mem_ready.1 hi
      have hlt : i < ops.size := by
        rcases Nat.lt_or_ge i ops.size with h | h
        · exact h
        · rw [Array.getElem?_eq_none h] at hoi; cases hoi
      rw [getD_true_false listed i (by omega)] at hun
      have hij : i = j := by
        rcases Nat.lt_trichotomy i j with h | h | h
        · rw [h1 i h hlt] at hun; cases hun
        · exact h
        · exfalso
          have := tailB_at htail (by omega) hoi; rw [Array.any_eq_true'] at this; obtain ⟨e, he, hek⟩ := this; simp only [Bool.and_eq_true, beq_iff_eq] at hek; have := hall e he hek.1; rw [hek.2, h2 (i - 1) (by omega)] at this; cases this
      subst hij; rw [drop_at hoi] at h
      have h' : wpOp P ops Q i (wpList P ops Q (ops.toList.drop (i + 1))) a w := by
        unfold wpOp; rw [hoi]; exact h
      have hset : ∀ k, (listed.setIfInBounds i true).getD k false = (if k = i then true else listed.getD k false) := by
        intro k
        by_cases hk : k = i
        · subst hk; simp [Array.getD_eq_getD_getElem?, Array.getElem?_setIfInBounds_self_of_lt (by omega : k < listed.size)]
        · simp [Array.getD_eq_getD_getElem?, Array.getElem?_setIfInBounds_ne (Ne.symm hk), hk]
      refine wpOp_mono (fun a' w' hw => ?_) h'; refine ih (i + 1) _ (by simp [hs]) (by omega) (by omega) (fun k hk hks => ?_) (fun k hk => ?_) a' w' hw
      · rw [hset k]; split
        · rfl
        · exact h1 k (by omega) hks
      · rw [hset k, if_neg (by omega)]; exact h2 k (by omega)
theorem wpAny_cut (a0 : Act) (w0 : World) (Φ : Nat → Value → World → Prop) (G : World → World → Prop) (z : Nat) (hz : z < ops.size) (htail : tailB ops z = true) (hdom : domB ops z = true) (htrans : ∀ a b c, G a b → G b c → G a c)
    (hΦ : ∀ i v w w', Φ i v w → G w w' → Φ i v w') (hB : ssaB ops a0.tmps.size = true)
    (hstep : ∀ i o, ops[i]? = some o → i < z → ∀ a w, G w0 w → Finds ops Φ a0 i o a w → wpOp P ops Q i (fun a' w' => ∃ v, a' = a.put o.dst v ∧ Φ i v w' ∧ G w w') a w)
    (hend : ∀ (a : Act) (w : World), G w0 w → (∀ i o, ops[i]? = some o → i < z → ∃ v, (∀ d, o.dst = some d → a.tmps[d]? = some v) ∧ Φ i v w) → a.defers = a0.defers → a.tmps.size = a0.tmps.size →
      (∀ t, (∀ i o, ops[i]? = some o → i < z → o.dst ≠ some t) → a.tmps[t]? = a0.tmps[t]?) → wpList P ops Q (ops.toList.drop z) a w) :
    ∀ (fuel : Nat) (listed : Array Bool) (a : Act) (w : World), listed.size = ops.size → unlisted ops listed = fuel → (∀ k, z ≤ k → listed.getD k false = false) → G w0 w → Ssa ops Φ a0 listed a w → wpAny P .any ops Q fuel listed a w := by
  have hb : ∀ i oi, ops[i]? = some oi → (∀ e ∈ oi.after, Region.binds .any e = true → e.on < i) ∧ (∀ d, oi.dst = some d → d < a0.tmps.size) ∧
      (∀ k ok d, k ≠ i → ops[k]? = some ok → ok.dst = some d → oi.dst ≠ some d ∧ (d ∈ oi.looksAt ops → oi.after.any (fun e => Region.binds .any e && e.on == k) = true ∨ ok.after.any (fun e => Region.binds .any e && e.on == i) = true)) := by
    intro i oi hi
    have hlt : i < ops.size := by
      rcases Nat.lt_or_ge i ops.size with h | h
      · exact h
      · rw [Array.getElem?_eq_none h] at hi; cases hi
    have h1 := List.all_eq_true.1 hB i (by simpa using hlt); rw [hi] at h1; simp only [Bool.and_eq_true] at h1; obtain ⟨⟨h2, h3⟩, h4⟩ := h1; refine ⟨fun e he => ?_, fun d hd => ?_, fun k ok d hk hok hd => ?_⟩
    · have h5 := (Array.all_eq_true'.1 h2) e he; intro hbe; simpa [hbe] using h5
    · rw [hd] at h3; simpa using h3
    · have hlt' : k < ops.size := by
        rcases Nat.lt_or_ge k ops.size with h | h
        · exact h
        · rw [Array.getElem?_eq_none h] at hok; cases hok
      have h5 := List.all_eq_true.1 h4 k (by simpa using hlt'); rw [hok] at h5; simp only [hd, Bool.or_eq_true, beq_iff_eq, hk, false_or, Bool.and_eq_true, bne_iff_ne, ne_eq, Bool.not_eq_true'] at h5; refine ⟨h5.1, fun hm => ?_⟩; rcases h5.2 with (h6 | h6) | h6
      · rw [List.contains_iff_mem.2 hm] at h6; cases h6
      · exact .inl h6
      · exact .inr h6
  intro fuel
  induction fuel with
  | zero =>
    intro listed a w hs hu hzu0 hG hI; have hzu := hzu0 z (Nat.le_refl _); exfalso
    have h0 : (List.range ops.size).filter (fun i => !listed.getD i false) = [] := List.eq_nil_of_length_eq_zero hu; have := List.filter_eq_nil_iff.1 h0 z (by simp; omega); simp [hzu] at this
  | succ fuel ih =>
    intro listed a w hs hu hzu0 hG hI; have hzu := hzu0 z (Nat.le_refl _); refine ⟨fun hr => ?_, fun i hi => ?_⟩
    · exfalso
      have hex : ∃ i, i < ops.size ∧ listed.getD i false = false := ⟨z, by omega, hzu⟩; obtain ⟨i, ⟨hi1, hi2⟩, hmin⟩ := exists_least hex
      have : i ∈ Region.ready .any ops listed := by
        rw [mem_ready]; refine ⟨by rw [getD_true_false listed i (by omega)]; exact hi2, _, Array.getElem?_eq_getElem hi1, fun e he hbe => ?_⟩; have h1 := (hb i _ (Array.getElem?_eq_getElem hi1)).1 e he hbe
        by_cases h2 : listed.getD e.on false = true
        · exact h2
        · exact absurd ⟨by omega, by simpa using h2⟩ (hmin e.on h1)
      rw [hr] at this; cases this
    · obtain ⟨hun, oi, hoi, hall⟩ := mem_ready.1 hi
      have hlt : i < ops.size := by
        rcases Nat.lt_or_ge i ops.size with h | h
        · exact h
        · rw [Array.getElem?_eq_none h] at hoi; cases hoi
      rw [getD_true_false listed i (by omega)] at hun; obtain ⟨b1, b2, b3⟩ := hb i oi hoi
      have hset : ∀ k, (listed.setIfInBounds i true).getD k false = (if k = i then true else listed.getD k false) := by
        intro k
        by_cases hk : k = i
        · subst hk; simp [Array.getD_eq_getD_getElem?, Array.getElem?_setIfInBounds_self_of_lt (by omega : k < listed.size)]
        · simp [Array.getD_eq_getD_getElem?, Array.getElem?_setIfInBounds_ne (Ne.symm hk), hk]
      have hdep : ∀ k, oi.after.any (fun e => Region.binds .any e && e.on == k) = true → listed.getD k false = true := by
        intro k hk; rw [Array.any_eq_true'] at hk; obtain ⟨e, he, hek⟩ := hk; simp only [Bool.and_eq_true, beq_iff_eq] at hek; rw [← hek.2]; exact hall e he hek.1
      have hF : Finds ops Φ a0 i oi a w := by
        refine ⟨hI.defers, hI.size, fun k ok d hok hd _ hk => ?_, fun d hd hno => ?_⟩
        · obtain ⟨v, hv, hφ⟩ := hI.new k ok hok (hdep k hk); exact ⟨v, hv d hd, hφ⟩
        · apply hI.old
          intro k ok hok hlk hkd
          by_cases hki : k = i
          · subst hki; rw [hun] at hlk; cases hlk
          · rcases (b3 k ok d hki hok hkd).2 hd with h1 | h1
            · rw [hno k ok hok hkd hki] at h1; cases h1
            · rw [Array.any_eq_true'] at h1; obtain ⟨e, he, hek⟩ := h1; simp only [Bool.and_eq_true, beq_iff_eq] at hek; have := hI.closed k ok e hok hlk he hek.1; rw [hek.2, hun] at this; cases this
      have hclosed' : ∀ k ok e, ops[k]? = some ok → (listed.setIfInBounds i true).getD k false = true → e ∈ ok.after → Region.binds .any e = true → (listed.setIfInBounds i true).getD e.on false = true := by
        intro k ok e hok hlk he hbe; rw [hset k] at hlk; rw [hset e.on]
        by_cases hki : k = i
        · subst hki; rw [hoi] at hok; injection hok with hok; subst hok
          split
          · rfl
          · exact hall e he hbe
        · rw [if_neg hki] at hlk; split
          · rfl
          · exact hI.closed k ok e hok hlk he hbe
      have hcount : unlisted ops (listed.setIfInBounds i true) = fuel := by
        unfold unlisted at hu ⊢
        have e1 : (List.range ops.size).filter (fun k => !(listed.setIfInBounds i true).getD k false) = ((List.range ops.size).filter fun k => !listed.getD k false).erase i := by
          rw [List.Nodup.erase_eq_filter (List.Pairwise.filter _ List.nodup_range), List.filter_filter]; apply List.filter_congr
          intro k _; rw [hset k]
          by_cases hk : k = i
          · simp [hk]
          · simp [hk]
        rw [e1, List.length_erase_of_mem (by rw [List.mem_filter]; exact ⟨by simpa using hlt, by simp [hun]⟩), hu]; omega
      have hiz1 : ¬ z < i := by
        intro h; have := hdep (i - 1) (tailB_at htail h hoi); rw [hzu0 (i - 1) (by omega)] at this; cases this
      by_cases hiz : i = z
      · subst hiz; have hallL := all_listed hdom hclosed' (by rw [hset i]; simp)
        have hothers : ∀ k, k < i → listed.getD k false = true := by
          intro k hk; have := hallL k (by omega); rw [hset k, if_neg (by omega)] at this; exact this
        have hw := hend a w hG (fun k ok hk hki => hI.new k ok hk (hothers k hki)) hI.defers hI.size fun t ht => hI.old t fun k o hk hl => ht k o hk (by
          rcases Nat.lt_or_ge k i with h | h
          · exact h
          · rw [hzu0 k h] at hl; cases hl)
        rw [drop_at hoi] at hw
        have hw' : wpOp P ops Q i (wpList P ops Q (ops.toList.drop (i + 1))) a w := by
          unfold wpOp; rw [hoi]; exact hw
        refine wpOp_mono (fun a' w' h => ?_) hw'; refine wpAny_chain htail (fun k ok e hk he hbe => (hb k ok hk).1 e he hbe) fuel (i + 1) _ (by simp [hs]) ?_ (by omega) (fun k hk _ => ?_) (fun k hk => ?_) a' w' h
        · rw [← hcount, unlisted_at (listed := listed.setIfInBounds i true) (j := i + 1) (by omega) (fun k hk => hallL k (by omega)) (fun k hk => by rw [hset k, if_neg (by omega)]; exact hzu0 k (by omega))]
        · exact hallL k (by omega)
        · rw [hset k, if_neg (by omega)]; exact hzu0 k (by omega)
      · refine wpOp_mono (fun a' w' h => ?_) (hstep i oi hoi (by omega) a w hG hF); obtain ⟨v, rfl, hφ, hg⟩ := h
        have hput : ∀ t, oi.dst ≠ some t → (a.put oi.dst v).tmps[t]? = a.tmps[t]? := by
          intro t ht; cases hd : oi.dst with
          | none => rfl
          | some d =>
            have hne : d ≠ t := fun e => ht (by rw [hd, e]); simp [Act.put, Array.getElem?_setIfInBounds_ne hne]
        refine ih _ _ _ (by simp [hs]) hcount (fun k hk => by rw [hset k, if_neg (by omega)]; exact hzu0 k hk) (htrans _ _ _ hG hg) ⟨?_, ?_, ?_, ?_, hclosed'⟩
        · cases hd : oi.dst <;> simp [Act.put, hI.defers]
        · cases hd : oi.dst <;> simp [Act.put, hI.size]
        · intro k ok hok hlk; rw [hset k] at hlk
          by_cases hki : k = i
          · subst hki; rw [hoi] at hok; injection hok with hok; subst hok
            refine ⟨v, fun d hd => ?_, hφ⟩; have := b2 d hd; rw [hd]; simp [Act.put, Array.getElem?_setIfInBounds_self_of_lt (by rw [hI.size]; exact this : d < a.tmps.size)]
          · rw [if_neg hki] at hlk; obtain ⟨u, hu1, hu2⟩ := hI.new k ok hok hlk; refine ⟨u, fun d hd => ?_, hΦ _ _ _ _ hu2 hg⟩; rw [hput d (b3 k ok d hki hok hd).1]; exact hu1 d hd
        · intro t ht; have h1 : oi.dst ≠ some t := ht i oi hoi (by rw [hset i]; simp); rw [hput t h1]; apply hI.old
          intro k ok hok hlk; exact ht k ok hok (by rw [hset k]; split <;> simp_all)
theorem wp_region_cut {id : Nat} {a0 : Act} {w0 : World} (hm : P.follows .mixedOrders = true) (L : List (Value → World → Prop)) (z : Nat) (hz : z < ops.size) (htail : tailB ops z = true) (hdom : domB ops z = true) (hB : ssaB ops a0.tmps.size = true)
    (hL : ∀ φ ∈ L, ∀ v w w', φ v w → Gr w w' → φ v w')
    (hstep : AllFrom (StepL P ops Q a0 w0.drew Gr L) 0 (ops.toList.take z))
    (hend : ∀ (vs : Nat → Value) w, Gr w0.drew w → AllFrom (fun i _ => (L.getD i AnyV) (vs i) w) 0 (ops.toList.take z) → wpList P ops Q (ops.toList.drop z) (putAll vs 0 (ops.toList.take z) a0) w) : (Code.region id ops true).wp P Q a0 w0 := by
  have hΦ : ∀ i v (w w' : World), (L.getD i AnyV) v w → Gr w w' → (L.getD i AnyV) v w' := by
    intro i v w w' h hg; rcases Nat.lt_or_ge i L.length with hlt | hge
    · simp only [List.getD_eq_getElem?_getD, List.getElem?_eq_getElem hlt, Option.getD_some] at h ⊢; exact hL _ (List.getElem_mem hlt) v w w' h hg
    · simp only [List.getD_eq_getElem?_getD, List.getElem?_eq_none hge, Option.getD_none] at h ⊢; exact trivial
  refine wp_region_any hm (wpAny_cut a0 w0.drew (fun i => L.getD i AnyV) Gr z hz htail hdom (fun _ _ _ => Gr.trans) hΦ hB ?_ ?_ ops.size (Array.replicate ops.size false) a0 w0.drew (by simp) ?_ ?_ (Gr.refl _) ⟨rfl, rfl, ?_, fun _ _ => rfl, ?_⟩)
  · intro i o hi hiz a w hg hF; have h1 := allFrom_get (ops.toList.take z) 0 hstep i o (by rw [List.getElem?_take]; simp [hiz, hi]); simp only [Nat.zero_add] at h1; exact h1 a w hg hF
  · intro a w hg hnew hdef hsize hold
    have hch : ∀ i, ∃ v, i < z → (∀ d, ((ops[i]?).bind (fun o : Oper => o.dst)) = some d → a.tmps[d]? = some v) ∧ (L.getD i AnyV) v w := by
      intro i
      by_cases hi : i < z
      · obtain ⟨v, h1, h2⟩ := hnew i _ (Array.getElem?_eq_getElem (by omega : i < ops.size)) hi; exact ⟨v, fun _ => ⟨fun d hd => h1 d (by simpa [(by omega : i < ops.size)] using hd), h2⟩⟩
      · exact ⟨undef, fun h => absurd h hi⟩
    have hvs := fun i => Classical.choose_spec (hch i)
    have hall : ∀ (os : List Oper) (k : Nat), k + os.length ≤ z → AllFrom (fun i _ => (L.getD i AnyV) (Classical.choose (hch i)) w) k os := by
      intro os
      induction os with
      | nil => intro k _; exact trivial
      | cons o os ih => intro k hk; simp at hk; exact ⟨(hvs k (by omega)).2, ih (k + 1) (by omega)⟩
    have hend' := hend (fun i => Classical.choose (hch i)) w hg (hall _ 0 (by simp; omega))
    have hlen : ∀ j (o : Oper), (ops.toList.take z)[j]? = some o → j < z ∧ ops[j]? = some o := by
      intro j o h; rw [List.getElem?_take] at h; split at h
      · exact ⟨by assumption, by simpa using h⟩
      · cases h
    have ha : putAll (fun i => Classical.choose (hch i)) 0 (ops.toList.take z) a0 = a := by
      have h1 := putAll_defers (fun i => Classical.choose (hch i)) (ops.toList.take z) 0 a0; have h2 := putAll_size (fun i => Classical.choose (hch i)) (ops.toList.take z) 0 a0
      have h3 : (putAll (fun i => Classical.choose (hch i)) 0 (ops.toList.take z) a0).tmps = a.tmps := by
        apply Array.ext_getElem?
        intro t
        by_cases hex : ∃ (j : Nat) (o : Oper), (ops.toList.take z)[j]? = some o ∧ o.dst = some t
        · obtain ⟨j, o, hj0, hd⟩ := hex; obtain ⟨hjz, hj⟩ := hlen j o hj0; have hlt : j < ops.size := by omega
          have hb := List.all_eq_true.1 hB j (by simpa using hlt); rw [hj] at hb; simp only [Bool.and_eq_true, hd, decide_eq_true_eq] at hb; rw [putAll_new _ t (ops.toList.take z) 0 a0 j o hj0 hd hb.1.2 fun k o' hk hd' => ?_, (hvs j hjz).1 t (by rw [hj]; exact hd)]
          · simp
          · rcases Nat.decEq k j with hkj | hkj
            · exfalso
              obtain ⟨hkz, hk'⟩ := hlen k o' hk; have hltk : k < ops.size := by omega
              have h5 := List.all_eq_true.1 hb.2 k (by simpa using hltk); rw [hk'] at h5; simp [hkj, hd'] at h5
            · exact hkj
        · rw [putAll_old _ t (ops.toList.take z) 0 a0 (fun (o : Oper) ho e => hex (by obtain ⟨j, hj⟩ := List.getElem?_of_mem ho; exact ⟨j, o, hj, e⟩)), hold t fun i o hi hiz e => hex ⟨i, o, by rw [List.getElem?_take]; simp [hiz, hi], e⟩]
      have h4 := hdef; cases a; cases hq : putAll (fun i => Classical.choose (hch i)) 0 (ops.toList.take z) a0; rw [hq] at h1 h3; simp only at h1 h3 h4; rw [h1, h3, h4]
    rw [← ha]; exact hend'
  · unfold unlisted; rw [List.filter_eq_self.2]
    · simp
    · intro i hi; simp only [List.mem_range] at hi; simp [hi]
  · intro k _; rw [Array.getD_eq_getD_getElem?, Array.getElem?_replicate]; split <;> simp
  · intro i o hi hl; exfalso
    rw [Array.getD_eq_getD_getElem?, Array.getElem?_replicate] at hl; split at hl <;> simp at hl
  · intro i o e hi hl; exfalso
    rw [Array.getD_eq_getD_getElem?, Array.getElem?_replicate] at hl; split at hl <;> simp at hl
end
end Go.Proofs.YtjpphldojbfpfaaGreatDoor
namespace Go.Proofs.YtjpphldojbfpfaaGreatDoor
open Go.RowKit
section
variable {P : Program} {ops : Array Oper} {Q : Exit → Act → World → Prop}
def DistL (ops : Array Oper) (D : List Nat) (listed : Array Bool) (a : Act) : Prop := ∀ i j oi oj di dj, i ∈ D → j ∈ D → i ≠ j → ops[i]? = some oi → ops[j]? = some oj → listed.getD i false = true → listed.getD j false = true → oi.dst = some di → oj.dst = some dj → a.tmps[di]? ≠ a.tmps[dj]?
def Dist (ops : Array Oper) (D : List Nat) (z : Nat) (a : Act) : Prop := ∀ i j oi oj di dj, i ∈ D → j ∈ D → i ≠ j → ops[i]? = some oi → ops[j]? = some oj → i < z → j < z → oi.dst = some di → oj.dst = some dj → a.tmps[di]? ≠ a.tmps[dj]?
theorem wpAny_cutD (a0 : Act) (w0 : World) (Φ : Nat → Value → World → Prop) (G : World → World → Prop) (z : Nat) (hz : z < ops.size) (htail : tailB ops z = true) (hdom : domB ops z = true) (D : List Nat) (htrans : ∀ a b c, G a b → G b c → G a c)
    (hΦ : ∀ i v w w', Φ i v w → G w w' → Φ i v w') (hB : ssaB ops a0.tmps.size = true)
    (hstep : ∀ i o, ops[i]? = some o → i < z → ∀ a w, G w0 w → Finds ops Φ a0 i o a w → wpOp P ops Q i (fun a' w' => ∃ v, a' = a.put o.dst v ∧ Φ i v w' ∧ G w w') a w)
    (hD : ∀ i o, i ∈ D → ops[i]? = some o → i < z → ∀ a w, G w0 w → Finds ops Φ a0 i o a w → wpOp P ops Q i (fun a' w' => ∃ v, a' = a.put o.dst v ∧ Φ i v w' ∧ G w w' ∧ ∀ j ∈ D, ∀ u, Φ j u w → v ≠ u) a w)
    (hend : ∀ (a : Act) (w : World), Dist ops D z a → G w0 w → (∀ i o, ops[i]? = some o → i < z → ∃ v, (∀ d, o.dst = some d → a.tmps[d]? = some v) ∧ Φ i v w) → a.defers = a0.defers → a.tmps.size = a0.tmps.size →
      (∀ t, (∀ i o, ops[i]? = some o → i < z → o.dst ≠ some t) → a.tmps[t]? = a0.tmps[t]?) → wpList P ops Q (ops.toList.drop z) a w) :
    ∀ (fuel : Nat) (listed : Array Bool) (a : Act) (w : World), listed.size = ops.size → unlisted ops listed = fuel → (∀ k, z ≤ k → listed.getD k false = false) → G w0 w → Ssa ops Φ a0 listed a w → DistL ops D listed a → wpAny P .any ops Q fuel listed a w := by
  have hb : ∀ i oi, ops[i]? = some oi → (∀ e ∈ oi.after, Region.binds .any e = true → e.on < i) ∧ (∀ d, oi.dst = some d → d < a0.tmps.size) ∧
      (∀ k ok d, k ≠ i → ops[k]? = some ok → ok.dst = some d → oi.dst ≠ some d ∧ (d ∈ oi.looksAt ops → oi.after.any (fun e => Region.binds .any e && e.on == k) = true ∨ ok.after.any (fun e => Region.binds .any e && e.on == i) = true)) := by
    intro i oi hi
    have hlt : i < ops.size := by
      rcases Nat.lt_or_ge i ops.size with h | h
      · exact h
      · rw [Array.getElem?_eq_none h] at hi; cases hi
    have h1 := List.all_eq_true.1 hB i (by simpa using hlt); rw [hi] at h1; simp only [Bool.and_eq_true] at h1; obtain ⟨⟨h2, h3⟩, h4⟩ := h1; refine ⟨fun e he => ?_, fun d hd => ?_, fun k ok d hk hok hd => ?_⟩
    · have h5 := (Array.all_eq_true'.1 h2) e he; intro hbe; simpa [hbe] using h5
    · rw [hd] at h3; simpa using h3
    · have hlt' : k < ops.size := by
        rcases Nat.lt_or_ge k ops.size with h | h
        · exact h
        · rw [Array.getElem?_eq_none h] at hok; cases hok
      have h5 := List.all_eq_true.1 h4 k (by simpa using hlt'); rw [hok] at h5; simp only [hd, Bool.or_eq_true, beq_iff_eq, hk, false_or, Bool.and_eq_true, bne_iff_ne, ne_eq, Bool.not_eq_true'] at h5; refine ⟨h5.1, fun hm => ?_⟩; rcases h5.2 with (h6 | h6) | h6
      · rw [List.contains_iff_mem.2 hm] at h6; cases h6
      · exact .inl h6
      · exact .inr h6
  intro fuel
  induction fuel with
  | zero =>
    intro listed a w hs hu hzu0 hG hI hdl; have hzu := hzu0 z (Nat.le_refl _); exfalso
    have h0 : (List.range ops.size).filter (fun i => !listed.getD i false) = [] := List.eq_nil_of_length_eq_zero hu; have := List.filter_eq_nil_iff.1 h0 z (by simp; omega); simp [hzu] at this
  | succ fuel ih =>
    intro listed a w hs hu hzu0 hG hI hdl; have hzu := hzu0 z (Nat.le_refl _); refine ⟨fun hr => ?_, fun i hi => ?_⟩
    · exfalso
      have hex : ∃ i, i < ops.size ∧ listed.getD i false = false := ⟨z, by omega, hzu⟩; obtain ⟨i, ⟨hi1, hi2⟩, hmin⟩ := exists_least hex
      have : i ∈ Region.ready .any ops listed := by
        rw [mem_ready]; refine ⟨by rw [getD_true_false listed i (by omega)]; exact hi2, _, Array.getElem?_eq_getElem hi1, fun e he hbe => ?_⟩; have h1 := (hb i _ (Array.getElem?_eq_getElem hi1)).1 e he hbe
        by_cases h2 : listed.getD e.on false = true
        · exact h2
        · exact absurd ⟨by omega, by simpa using h2⟩ (hmin e.on h1)
      rw [hr] at this; cases this
    · obtain ⟨hun, oi, hoi, hall⟩ := mem_ready.1 hi
      have hlt : i < ops.size := by
        rcases Nat.lt_or_ge i ops.size with h | h
        · exact h
        · rw [Array.getElem?_eq_none h] at hoi; cases hoi
      rw [getD_true_false listed i (by omega)] at hun; obtain ⟨b1, b2, b3⟩ := hb i oi hoi
      have hset : ∀ k, (listed.setIfInBounds i true).getD k false = (if k = i then true else listed.getD k false) := by
        intro k
        by_cases hk : k = i
        · subst hk; simp [Array.getD_eq_getD_getElem?, Array.getElem?_setIfInBounds_self_of_lt (by omega : k < listed.size)]
        · simp [Array.getD_eq_getD_getElem?, Array.getElem?_setIfInBounds_ne (Ne.symm hk), hk]
      have hdep : ∀ k, oi.after.any (fun e => Region.binds .any e && e.on == k) = true → listed.getD k false = true := by
        intro k hk; rw [Array.any_eq_true'] at hk; obtain ⟨e, he, hek⟩ := hk; simp only [Bool.and_eq_true, beq_iff_eq] at hek; rw [← hek.2]; exact hall e he hek.1
      have hF : Finds ops Φ a0 i oi a w := by
        refine ⟨hI.defers, hI.size, fun k ok d hok hd _ hk => ?_, fun d hd hno => ?_⟩
        · obtain ⟨v, hv, hφ⟩ := hI.new k ok hok (hdep k hk); exact ⟨v, hv d hd, hφ⟩
        · apply hI.old
          intro k ok hok hlk hkd
          by_cases hki : k = i
          · subst hki; rw [hun] at hlk; cases hlk
          · rcases (b3 k ok d hki hok hkd).2 hd with h1 | h1
            · rw [hno k ok hok hkd hki] at h1; cases h1
            · rw [Array.any_eq_true'] at h1; obtain ⟨e, he, hek⟩ := h1; simp only [Bool.and_eq_true, beq_iff_eq] at hek; have := hI.closed k ok e hok hlk he hek.1; rw [hek.2, hun] at this; cases this
      have hclosed' : ∀ k ok e, ops[k]? = some ok → (listed.setIfInBounds i true).getD k false = true → e ∈ ok.after → Region.binds .any e = true → (listed.setIfInBounds i true).getD e.on false = true := by
        intro k ok e hok hlk he hbe; rw [hset k] at hlk; rw [hset e.on]
        by_cases hki : k = i
        · subst hki; rw [hoi] at hok; injection hok with hok; subst hok
          split
          · rfl
          · exact hall e he hbe
        · rw [if_neg hki] at hlk; split
          · rfl
          · exact hI.closed k ok e hok hlk he hbe
      have hcount : unlisted ops (listed.setIfInBounds i true) = fuel := by
        unfold unlisted at hu ⊢
        have e1 : (List.range ops.size).filter (fun k => !(listed.setIfInBounds i true).getD k false) = ((List.range ops.size).filter fun k => !listed.getD k false).erase i := by
          rw [List.Nodup.erase_eq_filter (List.Pairwise.filter _ List.nodup_range), List.filter_filter]; apply List.filter_congr
          intro k _; rw [hset k]
          by_cases hk : k = i
          · simp [hk]
          · simp [hk]
        rw [e1, List.length_erase_of_mem (by rw [List.mem_filter]; exact ⟨by simpa using hlt, by simp [hun]⟩), hu]; omega
      have hiz1 : ¬ z < i := by
        intro h; have := hdep (i - 1) (tailB_at htail h hoi); rw [hzu0 (i - 1) (by omega)] at this; cases this
      by_cases hiz : i = z
      · subst hiz; have hallL := all_listed hdom hclosed' (by rw [hset i]; simp)
        have hothers : ∀ k, k < i → listed.getD k false = true := by
          intro k hk; have := hallL k (by omega); rw [hset k, if_neg (by omega)] at this; exact this
        have hw := hend a w (fun i1 j1 oi1 oj1 di1 dj1 h1 h2 h3 h4 h5 h6 h7 h8 h9 => hdl i1 j1 oi1 oj1 di1 dj1 h1 h2 h3 h4 h5 (hothers _ h6) (hothers _ h7) h8 h9) hG (fun k ok hk hki => hI.new k ok hk (hothers k hki)) hI.defers hI.size fun t ht => hI.old t fun k o hk hl => ht k o hk (by
          rcases Nat.lt_or_ge k i with h | h
          · exact h
          · rw [hzu0 k h] at hl; cases hl)
        rw [drop_at hoi] at hw
        have hw' : wpOp P ops Q i (wpList P ops Q (ops.toList.drop (i + 1))) a w := by
          unfold wpOp; rw [hoi]; exact hw
        refine wpOp_mono (fun a' w' h => ?_) hw'; refine wpAny_chain htail (fun k ok e hk he hbe => (hb k ok hk).1 e he hbe) fuel (i + 1) _ (by simp [hs]) ?_ (by omega) (fun k hk _ => ?_) (fun k hk => ?_) a' w' h
        · rw [← hcount, unlisted_at (listed := listed.setIfInBounds i true) (j := i + 1) (by omega) (fun k hk => hallL k (by omega)) (fun k hk => by rw [hset k, if_neg (by omega)]; exact hzu0 k (by omega))]
        · exact hallL k (by omega)
        · rw [hset k, if_neg (by omega)]; exact hzu0 k (by omega)
      · have hstep' : wpOp P ops Q i (fun a' w' => ∃ v, a' = a.put oi.dst v ∧ Φ i v w' ∧ G w w' ∧ (i ∈ D → ∀ j ∈ D, ∀ u, Φ j u w → v ≠ u)) a w := by
          by_cases hiD : i ∈ D
          · exact wpOp_mono (fun a' w' ⟨v, h1, h2, h3, h4⟩ => ⟨v, h1, h2, h3, fun _ => h4⟩) (hD i oi hiD hoi (by omega) a w hG hF)
          · exact wpOp_mono (fun a' w' ⟨v, h1, h2, h3⟩ => ⟨v, h1, h2, h3, fun h => absurd h hiD⟩) (hstep i oi hoi (by omega) a w hG hF)
        refine wpOp_mono (fun a' w' h => ?_) hstep'; obtain ⟨v, rfl, hφ, hg, hfr⟩ := h
        have hput : ∀ t, oi.dst ≠ some t → (a.put oi.dst v).tmps[t]? = a.tmps[t]? := by
          intro t ht; cases hd : oi.dst with
          | none => rfl
          | some d =>
            have hne : d ≠ t := fun e => ht (by rw [hd, e]); simp [Act.put, Array.getElem?_setIfInBounds_ne hne]
        refine ih _ _ _ (by simp [hs]) hcount (fun k hk => by rw [hset k, if_neg (by omega)]; exact hzu0 k hk) (htrans _ _ _ hG hg) ⟨?_, ?_, ?_, ?_, hclosed'⟩ ?_
        · cases hd : oi.dst <;> simp [Act.put, hI.defers]
        · cases hd : oi.dst <;> simp [Act.put, hI.size]
        · intro k ok hok hlk; rw [hset k] at hlk
          by_cases hki : k = i
          · subst hki; rw [hoi] at hok; injection hok with hok; subst hok
            refine ⟨v, fun d hd => ?_, hφ⟩; have := b2 d hd; rw [hd]; simp [Act.put, Array.getElem?_setIfInBounds_self_of_lt (by rw [hI.size]; exact this : d < a.tmps.size)]
          · rw [if_neg hki] at hlk; obtain ⟨u, hu1, hu2⟩ := hI.new k ok hok hlk; refine ⟨u, fun d hd => ?_, hΦ _ _ _ _ hu2 hg⟩; rw [hput d (b3 k ok d hki hok hd).1]; exact hu1 d hd
        · intro t ht; have h1 : oi.dst ≠ some t := ht i oi hoi (by rw [hset i]; simp); rw [hput t h1]; apply hI.old
          intro k ok hok hlk; exact ht k ok hok (by rw [hset k]; split <;> simp_all)
        · intro i1 j1 oi1 oj1 di1 dj1 h1 h2 h3 h4 h5 h6 h7 h8 h9; rw [hset i1] at h6; rw [hset j1] at h7
          have hat : ∀ d, oi.dst = some d → (a.put oi.dst v).tmps[d]? = some v := by
            intro d hd; have := b2 d hd; rw [hd]; simp [Act.put, Array.getElem?_setIfInBounds_self_of_lt (by rw [hI.size]; exact this : d < a.tmps.size)]
          by_cases e1 : i1 = i
          · subst e1; rw [hoi] at h4; injection h4 with h4; subst h4
            rw [if_neg (Ne.symm h3)] at h7; obtain ⟨u, hu1, hu2⟩ := hI.new j1 oj1 h5 h7; rw [hat di1 h8, hput dj1 (b3 j1 oj1 dj1 (Ne.symm h3) h5 h9).1, hu1 dj1 h9]; intro h; injection h with h
            exact hfr h1 j1 h2 u hu2 h
          · rw [if_neg e1] at h6
            by_cases e2 : j1 = i
            · subst e2; rw [hoi] at h5; injection h5 with h5; subst h5
              obtain ⟨u, hu1, hu2⟩ := hI.new i1 oi1 h4 h6; rw [hat dj1 h9, hput di1 (b3 i1 oi1 di1 e1 h4 h8).1, hu1 di1 h8]; intro h; injection h with h
              exact hfr h2 i1 h1 u hu2 h.symm
            · rw [if_neg e2] at h7; rw [hput di1 (b3 i1 oi1 di1 e1 h4 h8).1, hput dj1 (b3 j1 oj1 dj1 e2 h5 h9).1]; exact hdl i1 j1 oi1 oj1 di1 dj1 h1 h2 h3 h4 h5 h6 h7 h8 h9
theorem wp_region_cutD {id : Nat} {a0 : Act} {w0 : World} (hm : P.follows .mixedOrders = true) (L : List (Value → World → Prop)) (z : Nat) (hz : z < ops.size) (htail : tailB ops z = true) (hdom : domB ops z = true) (D : List Nat) (hB : ssaB ops a0.tmps.size = true)
    (hL : ∀ φ ∈ L, ∀ v w w', φ v w → Gr w w' → φ v w')
    (hstep : AllFrom (StepL P ops Q a0 w0.drew Gr L) 0 (ops.toList.take z))
    (hD : ∀ i o, i ∈ D → ops[i]? = some o → i < z → ∀ a w, Gr w0.drew w → Finds ops (fun i => L.getD i AnyV) a0 i o a w → wpOp P ops Q i (fun a' w' => ∃ v, a' = a.put o.dst v ∧ (L.getD i AnyV) v w' ∧ Gr w w' ∧ ∀ j ∈ D, ∀ u, (L.getD j AnyV) u w → v ≠ u) a w)
    (hend : ∀ (vs : Nat → Value) w, (∀ i j oi oj di dj, i ∈ D → j ∈ D → i ≠ j → i < z → j < z → ops[i]? = some oi → ops[j]? = some oj → oi.dst = some di → oj.dst = some dj → vs i ≠ vs j) → Gr w0.drew w → AllFrom (fun i _ => (L.getD i AnyV) (vs i) w) 0 (ops.toList.take z) → wpList P ops Q (ops.toList.drop z) (putAll vs 0 (ops.toList.take z) a0) w) : (Code.region id ops true).wp P Q a0 w0 := by
  have hΦ : ∀ i v (w w' : World), (L.getD i AnyV) v w → Gr w w' → (L.getD i AnyV) v w' := by
    intro i v w w' h hg; rcases Nat.lt_or_ge i L.length with hlt | hge
    · simp only [List.getD_eq_getElem?_getD, List.getElem?_eq_getElem hlt, Option.getD_some] at h ⊢; exact hL _ (List.getElem_mem hlt) v w w' h hg
    · simp only [List.getD_eq_getElem?_getD, List.getElem?_eq_none hge, Option.getD_none] at h ⊢; exact trivial
  refine wp_region_any hm (wpAny_cutD a0 w0.drew (fun i => L.getD i AnyV) Gr z hz htail hdom D (fun _ _ _ => Gr.trans) hΦ hB ?_ hD ?_ ops.size (Array.replicate ops.size false) a0 w0.drew (by simp) ?_ ?_ (Gr.refl _) ⟨rfl, rfl, ?_, fun _ _ => rfl, ?_⟩ ?_)
  · intro i o hi hiz a w hg hF; have h1 := allFrom_get (ops.toList.take z) 0 hstep i o (by rw [List.getElem?_take]; simp [hiz, hi]); simp only [Nat.zero_add] at h1; exact h1 a w hg hF
  · intro a w hds hg hnew hdef hsize hold
    have hch : ∀ i, ∃ v, i < z → (∀ d, ((ops[i]?).bind (fun o : Oper => o.dst)) = some d → a.tmps[d]? = some v) ∧ (L.getD i AnyV) v w := by
      intro i
      by_cases hi : i < z
      · obtain ⟨v, h1, h2⟩ := hnew i _ (Array.getElem?_eq_getElem (by omega : i < ops.size)) hi; exact ⟨v, fun _ => ⟨fun d hd => h1 d (by simpa [(by omega : i < ops.size)] using hd), h2⟩⟩
      · exact ⟨undef, fun h => absurd h hi⟩
    have hvs := fun i => Classical.choose_spec (hch i)
    have hall : ∀ (os : List Oper) (k : Nat), k + os.length ≤ z → AllFrom (fun i _ => (L.getD i AnyV) (Classical.choose (hch i)) w) k os := by
      intro os
      induction os with
      | nil => intro k _; exact trivial
      | cons o os ih => intro k hk; simp at hk; exact ⟨(hvs k (by omega)).2, ih (k + 1) (by omega)⟩
    have hend' := hend (fun i => Classical.choose (hch i)) w (fun i j oi oj di dj h1 h2 h3 h4 h5 h6 h7 h8 h9 he => hds i j oi oj di dj h1 h2 h3 h6 h7 h4 h5 h8 h9 (by rw [(hvs i h4).1 di (by rw [h6]; exact h8), (hvs j h5).1 dj (by rw [h7]; exact h9), he])) hg (hall _ 0 (by simp; omega))
    have hlen : ∀ j (o : Oper), (ops.toList.take z)[j]? = some o → j < z ∧ ops[j]? = some o := by
      intro j o h; rw [List.getElem?_take] at h; split at h
      · exact ⟨by assumption, by simpa using h⟩
      · cases h
    have ha : putAll (fun i => Classical.choose (hch i)) 0 (ops.toList.take z) a0 = a := by
      have h1 := putAll_defers (fun i => Classical.choose (hch i)) (ops.toList.take z) 0 a0; have h2 := putAll_size (fun i => Classical.choose (hch i)) (ops.toList.take z) 0 a0
      have h3 : (putAll (fun i => Classical.choose (hch i)) 0 (ops.toList.take z) a0).tmps = a.tmps := by
        apply Array.ext_getElem?
        intro t
        by_cases hex : ∃ (j : Nat) (o : Oper), (ops.toList.take z)[j]? = some o ∧ o.dst = some t
        · obtain ⟨j, o, hj0, hd⟩ := hex; obtain ⟨hjz, hj⟩ := hlen j o hj0; have hlt : j < ops.size := by omega
          have hb := List.all_eq_true.1 hB j (by simpa using hlt); rw [hj] at hb; simp only [Bool.and_eq_true, hd, decide_eq_true_eq] at hb; rw [putAll_new _ t (ops.toList.take z) 0 a0 j o hj0 hd hb.1.2 fun k o' hk hd' => ?_, (hvs j hjz).1 t (by rw [hj]; exact hd)]
          · simp
          · rcases Nat.decEq k j with hkj | hkj
            · exfalso
              obtain ⟨hkz, hk'⟩ := hlen k o' hk; have hltk : k < ops.size := by omega
              have h5 := List.all_eq_true.1 hb.2 k (by simpa using hltk); rw [hk'] at h5; simp [hkj, hd'] at h5
            · exact hkj
        · rw [putAll_old _ t (ops.toList.take z) 0 a0 (fun (o : Oper) ho e => hex (by obtain ⟨j, hj⟩ := List.getElem?_of_mem ho; exact ⟨j, o, hj, e⟩)), hold t fun i o hi hiz e => hex ⟨i, o, by rw [List.getElem?_take]; simp [hiz, hi], e⟩]
      have h4 := hdef; cases a; cases hq : putAll (fun i => Classical.choose (hch i)) 0 (ops.toList.take z) a0; rw [hq] at h1 h3; simp only at h1 h3 h4; rw [h1, h3, h4]
    rw [← ha]; exact hend'
  · unfold unlisted; rw [List.filter_eq_self.2]
    · simp
    · intro i hi; simp only [List.mem_range] at hi; simp [hi]
  · intro k _; rw [Array.getD_eq_getD_getElem?, Array.getElem?_replicate]; split <;> simp
  · intro i o hi hl; exfalso
    rw [Array.getD_eq_getD_getElem?, Array.getElem?_replicate] at hl; split at hl <;> simp at hl
  · intro i o e hi hl; exfalso
    rw [Array.getD_eq_getD_getElem?, Array.getElem?_replicate] at hl; split at hl <;> simp at hl
  · intro i j oi oj di dj _ _ _ _ _ h6; exfalso
    rw [Array.getD_eq_getD_getElem?, Array.getElem?_replicate] at h6; split at h6 <;> simp at h6
end
end Go.Proofs.YtjpphldojbfpfaaGreatDoor
namespace Go.Proofs.YtjpphldojbfpfaaGreatDoor
open Go.RowKit
theorem Arr.rdAll {w : World} {g : Nat} {t : TypeId} {l : List UInt8} (h : Arr w g t (u8s l)) {n : Nat} (hn : l.length = n) : Rd w (some ⟨g, 0, none⟩) n (u8s l) := by
  subst hn; have := h.rd 0 l.length (by simp)
  rwa [List.drop_zero, List.take_of_length_le (by simp)] at this
def NewA (B : Nat) (t : TypeId) (cs : List Value) : Value → World → Prop := fun v w => ∃ g, v = .pointer (some ⟨g, 0, none⟩) ∧ B ≤ g ∧ Arr w g t cs
theorem NewA.gr {B : Nat} {t : TypeId} {cs : List Value} {v : Value} {w w' : World} (h : NewA B t cs v w) (hg : Gr w w') : NewA B t cs v w' := by
  obtain ⟨g, h1, hb, h2⟩ := h; exact ⟨g, h1, hb, h2.gr hg⟩
theorem u8s_at {l : List UInt8} {i : Nat} {x : UInt8} (h : l[i]? = some x) : (u8s l)[i]? = some (.int .u8 (x.toNat : Int)) := by simp [u8s, h]
theorem Arr.u32 {w : World} {g : Nat} {t : TypeId} {s : List UInt32} (h : Arr w g t (u32s s)) {a : Nat} (ha : a < s.length) : w.cell? ⟨g, a, none⟩ = some (.int .u32 ((s.getD a 0).toNat : Int)) := by
  refine h.cell ?_; simp [u32s, List.getD_eq_getElem?_getD, ha]
theorem own_form3 {w : World} {base : Nat} {e : TypeId} {n : Nat} {v : Value} {xs : List Value} (h : w.ownsRow base e 1 v n xs) : ∃ A c, v = .slice A n c ∧ n ≤ c ∧ (A = none → n = 0 ∧ c = 0) ∧ Rd w A n xs := by
  obtain ⟨A, c, hv, hc, _⟩ := own_form h; refine ⟨A, c, hv, hc, fun hA => ?_, by subst hv; exact Rd.of_own h⟩; rcases h.2 with ⟨e1, e2⟩ | ⟨g, cap, cur, e1, _⟩
  · rw [hv] at e1; injection e1 with _ e3 e4
    exact ⟨e3, e4⟩
  · rw [hv, hA] at e1; cases e1
end Go.Proofs.YtjpphldojbfpfaaGreatDoor
namespace Go.Proofs.YtjpphldojbfpfaaGreatDoor
open Go.RowKit
section
variable {P : Program}
variable {ops : Array Oper} {Q : Exit → Act → World → Prop} {L : List (Value → World → Prop)} {a0 : Act} {w0 : World} {i : Nat} {o : Oper} {a : Act} {w : World}
end
end Go.Proofs.YtjpphldojbfpfaaGreatDoor
namespace Go.Proofs.YtjpphldojbfpfaaGreatDoor
open Go.RowKit
section
variable {P : Program} {ops : Array Oper} {Q : Exit → Act → World → Prop}
end
end Go.Proofs.YtjpphldojbfpfaaGreatDoor
namespace Go.Proofs.YtjpphldojbfpfaaGreatDoor
open Go.RowKit
section
variable {P : Program}
theorem wpList_copyA {ops : Array Oper} {rest : List Oper} {o : Oper} {a : Act} {Q : Exit → Act → World → Prop} {w : World} {t : TypeId} {g : Nat} {cs : List Value} (hA : Arr w g t cs) (hgd : o.guard = none) (d s : Operand) (dT sT : TypeId)
    (ho : o.op = .call { callee := .builtin .copy, args := #[d, s], argTypes := #[dT, sT] }) (elem : TypeId) (hu : P.underlying dT = some (.slice elem)) (hsz : (P.info? elem).map (·.size) = some 1)
    (off dLen dCap : Nat) (hd : a.eval d = .slice (some ⟨g, off, none⟩) dLen dCap) (A : Option Addr) (m c : Nat) (hs : a.eval s = .slice A m c) (news : List Value) (hr : Rd w A m news) (h1 : ∀ v ∈ news, v.oneCell' = true) (hm : m ≤ dLen) (hfit : off + dLen ≤ cs.length)
    (h : ∀ w2, Arr w2 g t (cs.take off ++ news ++ cs.drop (off + m)) → Below g w w2 → (∀ g' t' cs', g' ≠ g → Arr w g' t' cs' → Arr w2 g' t' cs') → wpList P ops Q rest (a.put o.dst (goInt m)) w2) : wpList P ops Q (o :: rest) a w := by
  have hl : news.length = m := hr.1; refine wpList_plain hgd fun K hK => ?_; unfold Oper.wp; rcases Nat.eq_zero_or_pos m with h0 | h0
  · subst h0; have hn : news = [] := List.eq_nil_of_length_eq_zero hl; subst hn; have hrun := run_copy_none (P := P) w dT sT o.type elem (some ⟨g, off, none⟩) A dLen dCap 0 c hu hsz (Nat.zero_min _); simp only [execOp, ho, resolve, invoke, builtin, Sem.run_bind, Sem.run_pure, Result.andThen_ok, List.map_toArray, List.map_cons, List.map_nil, hd, hs, hrun]; exact hK _ _ (h w (by simpa using hA) (Below.refl _ _) (fun _ _ _ _ h => h))
  · obtain ⟨ad, _, rfl, _, _⟩ := hr.at_ h0
    have hrun := run_copy_cells (P := P) w dT sT o.type elem g off dLen dCap ad m c news hu hsz (by rw [hl]; exact (Nat.min_eq_left hm).symm)
      (fun j v hv => by obtain ⟨ad', e, hc⟩ := hr.2 j v hv; injection e with e; subst e; exact hc)
      (fun j hj => by rw [hA.cell (List.getElem?_eq_getElem (by omega : off + j < cs.length))]; rfl) (fun j _ => hA.frozen _) h1
    simp only [execOp, ho, resolve, invoke, builtin, Sem.run_bind, Sem.run_pure, Result.andThen_ok, List.map_toArray, List.map_cons, List.map_nil, hd, hs, hrun]; rw [hl]; refine hK _ _ (h _ ?_ (below_setCells (Nat.le_refl _) _ _ _) (fun g' t' cs' hg hA' => hA'.setCells_other hg _ _)); have := Arr.setCells_from news off w cs hA (by omega)
    rwa [hl] at this
end
end Go.Proofs.YtjpphldojbfpfaaGreatDoor
