/- The vault's calls, whatever they are handed: the program's and the reference's. No condition. -/
import Derived.Test.YtnmhfomnlnlflaaDoorDoP
import Derived.Test.YtnmhfomnlnlflaaDoorVBack
import Derived.Test.YtnmhfomnlnlflaaDoorVRefF
namespace Go.Proofs.YtnmhfomnlnlflaaDoor
open Go.RowKit
/-- All may turn but bytes. -/
def allT : Nat → Obj → Bool := fun _ o => match o with | .map _ _ => true | .cells _ t _ => t == 48 || t == 9 || t == 78 | _ => false
theorem allT_own {b1 b2 b3 : Nat} : ∀ k o, ownV b1 b2 b3 k o = true → allT k o = true := by
  intro k o h
  cases o <;> simp_all [ownV, allT]
theorem allT_ref : ∀ k o, refT k o = true → allT k o = true := by
  intro k o h
  cases o <;> simp_all [refT, allT]
theorem allT2 : ∀ k C f, allT k (.cells C 5 f) = false := fun _ _ _ => rfl
/-- The tables lie low. -/
def LowG (B : Nat) : Prop := 0 < B ∧ 1 < B
theorem Glob.lowG {w : World} (h : Glob w) : LowG w.heap.size := by
  refine ⟨?_, lt_of_cell (h.key (k := 0) (by omega))⟩
  exact lt_of_cell (h.start 0 _ rfl)
section
variable {τ σ : Nat → Obj → Bool} {B : Nat} {w w' : World} {g b1 b2 b3 : Nat} {v : Vt}
theorem RdS.narrow {A : Option Addr} {n : Nat} {xs : List Value} (h : RdS τ B w A n xs) (hs : ∀ k o, k < w.heap.size → σ k o = true → τ k o = true) : RdS σ B w A n xs :=
  ⟨h.rd, fun hn ad e => by
    obtain ⟨h1, h2⟩ := h.safe hn ad e
    refine ⟨h1, h2.imp id fun hf => ?_⟩
    rcases hb : w.heap[ad.block]? with _ | o
    · rfl
    · rw [hb] at hf
      simp only [Turns] at hf ⊢
      rcases ht : σ ad.block o
      · rfl
      · rw [hs _ _ h1 ht] at hf; cases hf⟩
theorem TabR.narrow (hs : ∀ k o, k < w.heap.size → σ k o = true → τ k o = true) : ∀ {L : List Sealing} {T : List (Value × Value)}, TabR τ B w L T → TabR σ B w L T
  | [], [], _ => trivial
  | _ :: _, _ :: _, ⟨⟨h1, A, c, h2, h3, h4, h5⟩, h6⟩ => ⟨⟨h1, A, c, h2, h3, h4, h5.narrow hs⟩, h6.narrow hs⟩
  | [], _ :: _, h => h.elim
  | _ :: _, [], h => h.elim
theorem VIs.narrow (h : VIs τ B w g b1 b2 b3 v) (hs : ∀ k o, k < w.heap.size → σ k o = true → τ k o = true) : VIs σ B w g b1 b2 b3 v := by
  obtain ⟨T, h1, h2⟩ := h.table
  exact ⟨h.arr, h.len, h.lo, h.lt1, h.lt2, h.names, h.used, T, h1, fun hi => (h2 hi).narrow hs⟩
/-- The reference's steps leave the vault. -/
theorem VIs.ref (h : VIs τ B w g b1 b2 b3 v) (hT : Tn refT B w w') (hτ : ∀ k o, refT k o = true → τ k o = true) : VIs τ B w' g b1 b2 b3 v :=
  h.other hT (hT.wide hτ) (fun _ _ _ _ => rfl) (fun _ _ => by rfl)
/-- The vault's steps leave the reference's. -/
theorem RIs.own {r : Nat} (h : RIs B w r v) (hT : Tn (ownV b1 b2 b3) B w w') : RIs B w' r v :=
  h.tn hT (fun _ _ _ => by simp [ownV]) (fun _ _ _ => by simp [ownV]) (fun _ _ _ => by simp [ownV])
theorem Arr.ref {q : Nat} {t : TypeId} {cs : List Value} (h : Arr w q t cs) (hT : Tn refT B w w') (ht : ∀ k C f, refT k (.cells C t f) = false) : Arr w' q t cs := h.tn hT (fun C f => ht _ C f)
theorem Glob.keep (h : Glob w) (hB : Below B w w') (l : LowG B) : Glob w' := ⟨fun j u hj => (World.cell?_of_block (hB.block _ l.1)).trans (h.start j u hj), fun j u hj => (World.cell?_of_block (hB.block _ l.2)).trans (h.keys j u hj)⟩
open Classical in
theorem seal_tot (hV : VIs τ B w g b1 b2 b3 v) (hτ : ∀ k o, ownV b1 b2 b3 k o = true → τ k o = true) (hτ2 : ∀ k C f, w.heap.size ≤ k → τ k (.cells C 5 f) = false) (e c k : Int)
    (A : Option Addr) (n cn : Nat) (wi : List UInt8) (D : Option Addr) (m dm : Nat) (b : List UInt8) (hn : n ≤ 900) (hm : m ≤ 900) (hmd : m ≤ dm) (hr : Rd w A n (u8s wi)) (hb : Rd w D m (u8s b)) (hDn : D = none → m = 0 ∧ dm = 0) (hL : v.L.length ≤ 100000) (gw : Glob w) :
    Calls Tryd.prog 13 #[.pointer (some ⟨g, 0, none⟩), .int .i64 e, .int .i64 c, .int .i64 k, .slice A n cn, .slice D m dm] w fun r w' => ∃ E q cq, r = .returned (.tuple #[.slice E q cq, .int .i64 ((v.seals e c k wi b).2.1 : Int)]) ∧ RdS τ B w' E q (u8s (v.seals e c k wi b).1) ∧ VIs τ B w' g b1 b2 b3 (v.seals e c k wi b).2.2 ∧ Tn (ownV b1 b2 b3) B w w' := by
  have hbl : b.length = m := by simpa using hb.1
  unfold Vt.seals
  by_cases hR : Right e c k
  · obtain ⟨e, rfl⟩ : ∃ x : Nat, e = (x : Int) := ⟨e.toNat, by have := hR.1; omega⟩
    obtain ⟨c, rfl⟩ : ∃ x : Nat, c = (x : Int) := ⟨c.toNat, by have := hR.2.2.1; omega⟩
    obtain ⟨k, rfl⟩ : ∃ x : Nat, k = (x : Int) := ⟨k.toNat, by have := hR.2.2.2.2.1; omega⟩
    rw [if_pos hR, Int.toNat_natCast, Int.toNat_natCast, Int.toNat_natCast]
    by_cases hs : v.spent c k
    · rw [if_pos hs]
      refine (vseal_spent hV e c k hR hs (.slice A n cn) (.slice D m dm)).mono ?_
      rintro r w1 ⟨rfl, hG⟩
      exact ⟨_, _, _, rfl, RdS.nil _ _, hV.gr hG, Tn.of_gr hG⟩
    · rw [if_neg hs]
      refine (vseal_any hV hτ hτ2 e c k hR hs A n cn wi D m dm b hn hm hmd hr hb hDn hL gw).mono ?_
      rintro r w1 ⟨x, rfl, ho, hV1, hT⟩
      obtain ⟨E, cq, rfl, _, _⟩ := own_form ho
      exact ⟨_, _, _, rfl, RdS.of_own ho (fun k C f h => hτ2 k C f h), hV1, hT⟩
  · rw [if_neg hR]
    refine (vseal_bad g e c k hR (.slice A n cn) (.slice D m dm) w).mono ?_
    rintro r w1 ⟨rfl, hG⟩
    exact ⟨_, _, _, rfl, RdS.nil _ _, hV.gr hG, Tn.of_gr hG⟩
open Classical in
theorem rseal_tot {r : Nat} (hR : RIs B w r v) (e c k : Int) (wi b : List UInt8) (hL : v.L.length ≤ 1000) (hw : wi.length ≤ 900) (hb : b.length ≤ 900) (hB : B ≤ w.heap.size) :
    Calls Tryd.prog 29 #[.pointer (some ⟨r, 0, none⟩), .int .i64 e, .int .i64 c, .int .i64 k, .string ⟨wi.toArray⟩, .string ⟨b.toArray⟩] w fun x w' => x = .returned (.tuple #[.string ⟨(v.seals e c k wi b).1.toArray⟩, .int .i64 ((v.seals e c k wi b).2.1 : Int)]) ∧ RIs B w' r (v.seals e c k wi b).2.2 ∧ Tn refT B w w' := by
  unfold Vt.seals
  by_cases hr : Right e c k
  · obtain ⟨e, rfl⟩ : ∃ x : Nat, e = (x : Int) := ⟨e.toNat, by have := hr.1; omega⟩
    obtain ⟨c, rfl⟩ : ∃ x : Nat, c = (x : Int) := ⟨c.toNat, by have := hr.2.2.1; omega⟩
    obtain ⟨k, rfl⟩ : ∃ x : Nat, k = (x : Int) := ⟨k.toNat, by have := hr.2.2.2.2.1; omega⟩
    rw [if_pos hr, Int.toNat_natCast, Int.toNat_natCast, Int.toNat_natCast]
    by_cases hs : v.spent c k
    · rw [if_pos hs]
      refine (docSeal_spent hR e c k wi b hr hL hs).mono ?_
      rintro x w1 ⟨rfl, hG⟩
      exact ⟨rfl, hR.gr hG, Tn.of_gr hG⟩
    · rw [if_neg hs]
      exact docSeal_free hR e c k wi b hr hL hs hw hb hB
  · rw [if_neg hr]
    refine (docSeal_no r e c k wi b hr w).mono ?_
    rintro x w1 ⟨rfl, hG⟩
    exact ⟨rfl, hR.gr hG, Tn.of_gr hG⟩
theorem rblind_tot {r : Nat} (hR : RIs B w r v) (nm : List UInt8) (h1 : 1 ≤ nm.length) (h2 : nm.length ≤ 64) (hn : v.names.length ≤ 1000) (hB : B ≤ w.heap.size) :
    Calls Tryd.prog 28 #[.pointer (some ⟨r, 0, none⟩), .string ⟨nm.toArray⟩] w fun e w' => e = .returned (.tuple #[.string ⟨(v.blind nm).toArray⟩, .int .i64 0]) ∧ RIs B w' r (v.named nm) ∧ Tn refT B w w' := by
  cases hi : v.ideal with
  | true => exact docBlind_ideal hR hi nm h1 h2 hn hB
  | false =>
    refine (docBlind_real hR hi nm h1 h2).mono ?_
    rintro e w1 ⟨rfl, hG⟩
    have hv : v.named nm = v := by simp [Vt.named, hi]
    rw [hv]
    exact ⟨rfl, hR.gr hG, Tn.of_gr hG⟩
theorem open_tot {N : Nat} (hV : VIs τ B w g b1 b2 b3 v) (hg : Good v N) (e c k : Int)
    (A : Option Addr) (n cn : Nat) (wi : List UInt8) (D : Option Addr) (m dm : Nat) (s : List UInt8) (hn : n ≤ 9000) (hm : m ≤ 9000) (hmd : m ≤ dm) (hr : Rd w A n (u8s wi)) (hb : Rd w D m (u8s s)) (gw : Glob w) :
    Calls Tryd.prog 15 #[.pointer (some ⟨g, 0, none⟩), .int .i64 e, .int .i64 c, .int .i64 k, .slice A n cn, .slice D m dm] w fun x w' => ∃ X z, v.openI e c k wi s (X, z) ∧ (∃ E q cq, x = .returned (.tuple #[.slice E q cq, .int .i64 (z : Int)]) ∧ Rd w' E q (u8s X)) ∧ Gr w w' := by
  have hsl : s.length = m := by simpa using hb.1
  by_cases hR : Right e c k
  · obtain ⟨e, rfl⟩ : ∃ x : Nat, e = (x : Int) := ⟨e.toNat, by have := hR.1; omega⟩
    obtain ⟨c, rfl⟩ : ∃ x : Nat, c = (x : Int) := ⟨c.toNat, by have := hR.2.2.1; omega⟩
    obtain ⟨k, rfl⟩ : ∃ x : Nat, k = (x : Int) := ⟨k.toNat, by have := hR.2.2.2.2.1; omega⟩
    by_cases hm16 : m < 16
    · refine (vopen_short g e c k hR (.slice A n cn) D m dm hm16 w).mono ?_
      rintro x w1 ⟨rfl, hG⟩
      exact ⟨[], 2, .inl ⟨hR, by rw [Vt.opens, if_pos (by omega)]⟩, ⟨_, _, _, rfl, Rd.nil _ _⟩, hG⟩
    · refine (vopen_any hV e c k hR (fun x hx => by have := (hg.each x hx).1; omega) A n cn wi D m dm s hn (by omega) hm hmd hr hb gw).mono ?_
      rintro x w1 ⟨⟨r, ho, E, cq, rfl, hc, hrd⟩, hG⟩
      exact ⟨r.1, r.2, .inl ⟨hR, by rw [Int.toNat_natCast, Int.toNat_natCast, Int.toNat_natCast]; exact ho⟩, ⟨_, _, _, rfl, hrd⟩, hG⟩
  · refine (vopen_bad g e c k hR (.slice A n cn) (.slice D m dm) w).mono ?_
    rintro x w1 ⟨rfl, hG⟩
    exact ⟨[], 1, .inr ⟨hR, rfl⟩, ⟨_, _, _, rfl, Rd.nil _ _⟩, hG⟩
theorem ropen_tot {r : Nat} (hR : RIs B w r v) (e c k : Int) (wi s : List UInt8) (hL : v.L.length ≤ 1000) (hw : wi.length ≤ 9000) (hs : s.length ≤ 9000) :
    Calls Tryd.prog 30 #[.pointer (some ⟨r, 0, none⟩), .int .i64 e, .int .i64 c, .int .i64 k, .string ⟨wi.toArray⟩, .string ⟨s.toArray⟩] w fun x w' => ∃ X z, v.openI e c k wi s (X, z) ∧ x = .returned (.tuple #[.string ⟨X.toArray⟩, .int .i64 ((z : Nat) : Int)]) ∧ Gr w w' := by
  by_cases hr : Right e c k
  · obtain ⟨e, rfl⟩ : ∃ x : Nat, e = (x : Int) := ⟨e.toNat, by have := hr.1; omega⟩
    obtain ⟨c, rfl⟩ : ∃ x : Nat, c = (x : Int) := ⟨c.toNat, by have := hr.2.2.1; omega⟩
    obtain ⟨k, rfl⟩ : ∃ x : Nat, k = (x : Int) := ⟨k.toNat, by have := hr.2.2.2.2.1; omega⟩
    by_cases hm16 : s.length < 16
    · refine (docOpen_short r e c k ⟨wi.toArray⟩ ⟨s.toArray⟩ hr hm16 w).mono ?_
      rintro x w1 ⟨rfl, hG⟩
      exact ⟨[], 2, .inl ⟨hr, by rw [Vt.opens, if_pos hm16]⟩, rfl, hG⟩
    · have key : Calls Tryd.prog 30 #[.pointer (some ⟨r, 0, none⟩), .int .i64 (e : Int), .int .i64 (c : Int), .int .i64 (k : Int), .string ⟨wi.toArray⟩, .string ⟨s.toArray⟩] w fun x w' => ROpenR v e c k wi s x ∧ Gr w w' := by
        cases hi : v.ideal with
        | true => exact docOpen_ideal hR hi e c k wi s hr (by omega) hL
        | false => exact docOpen_real hR hi e c k wi s hr (by omega) hw hs
      refine key.mono ?_
      rintro x w1 ⟨⟨X, z, rfl, ho⟩, hG⟩
      exact ⟨X, z, .inl ⟨hr, by rw [Int.toNat_natCast, Int.toNat_natCast, Int.toNat_natCast]; exact ho⟩, rfl, hG⟩
  · refine (docOpen_no r e c k ⟨wi.toArray⟩ ⟨s.toArray⟩ hr w).mono ?_
    rintro x w1 ⟨rfl, hG⟩
    exact ⟨[], 1, .inr ⟨hr, rfl⟩, rfl, hG⟩
end
end Go.Proofs.YtnmhfomnlnlflaaDoor
