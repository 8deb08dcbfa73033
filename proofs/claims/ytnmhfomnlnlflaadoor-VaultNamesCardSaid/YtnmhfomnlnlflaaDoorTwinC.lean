/- Two vaults side by side: one's calls leave the other. No condition. -/
import Derived.Test.YtnmhfomnlnlflaaDoorTwinP
import Derived.Test.YtnmhfomnlnlflaaDoorDoX
import Derived.Test.YtnmhfomnlnlflaaDoorSsaH
namespace Go.Proofs.YtnmhfomnlnlflaaDoor
open Go.RowKit
section
variable {τ : Nat → Obj → Bool} {B : Nat} {w w' : World} {g b1 b2 b3 a1 a2 a3 : Nat} {v : Vt}
theorem VIs.apart (h : VIs τ B w g a1 a2 a3 v) (hT : Tn (ownV b1 b2 b3) B w w') (hτ : ∀ k o, ownV b1 b2 b3 k o = true → τ k o = true) (hd : ∀ k, k = a1 ∨ k = a2 ∨ k = a3 → k ≠ b1 ∧ k ≠ b2 ∧ k ≠ b3) : VIs τ B w' g a1 a2 a3 v :=
  h.other hT (hT.wide hτ) (fun k es c hk => by
    obtain ⟨h1, h2, h3⟩ := hd k hk
    simp [ownV, h1, h2, h3]) (fun C f => by simp [ownV])
theorem blind_tot (hV : VIs τ B w g b1 b2 b3 v) (hτ : ∀ k o, ownV b1 b2 b3 k o = true → τ k o = true) (A : Option Addr) (n c : Nat) (nm : List UInt8) (hnc : n ≤ c) (hr : Rd w A n (u8s nm)) (hnl : v.names.length ≤ 100000) (gw : Glob w) :
    Calls Tryd.prog 12 #[.pointer (some ⟨g, 0, none⟩), .slice A n c] w fun e w' => e = .returned (.tuple #[.agg (u8s (v.blinds nm).1).toArray, .int .i64 ((v.blinds nm).2.1 : Int)]) ∧ VIs τ B w' g b1 b2 b3 (v.blinds nm).2.2 ∧ Tn (ownV b1 b2 b3) B w w' := by
  have hl : nm.length = n := by simpa using hr.1
  unfold Vt.blinds
  rw [hl]
  by_cases h : 1 ≤ n ∧ n ≤ 64
  · rw [if_pos h]
    exact vblind_any hV hτ A n c nm h.1 h.2 hnc hr hnl gw
  · rw [if_neg h]
    refine (vblind_no g A n c (by omega) w).mono ?_
    rintro e w1 ⟨rfl, hG⟩
    exact ⟨rfl, hV.gr hG, Tn.of_gr hG⟩
end
theorem Rd.belowC {w w' : World} {A : Option Addr} {n : Nat} {xs : List Value} (h : Rd w A n xs) {B : Nat} (hB : Below B w w') (ha : ∀ ad, A = some ad → ad.block < B) : Rd w' A n xs :=
  ⟨h.1, fun i u hu => by
    obtain ⟨ad, e, hc⟩ := h.2 i u hu
    exact ⟨ad, e, (World.cell?_of_block (hB.block (ad.add i).block (by rw [add_block]; exact ha ad e))).trans hc⟩⟩
/-- A vault that was just made; all its blocks lie there. -/
def NewV2 (B : Nat) (v0 : Vt) : Value → World → Prop := fun u w => ∃ g b1 b2 b3, u = .pointer (some ⟨g, 0, none⟩) ∧ VIs mapT B w g b1 b2 b3 v0 ∧ b3 < w.heap.size
theorem NewV2.gr {B : Nat} {v0 : Vt} {u : Value} {w w' : World} (h : NewV2 B v0 u w) (hG : Gr w w') : NewV2 B v0 u w' := by
  obtain ⟨g, b1, b2, b3, e, h, hl⟩ := h
  exact ⟨g, b1, b2, b3, e, h.gr hG, Nat.lt_of_lt_of_le hl hG.size⟩
/-- Where the two stand. -/
def TwinR (B ga a1 a2 a3 gb b1 b2 b3 : Nat) (y : UInt8) (n : Nat) (w0 : World) (i : Value) (w : World) : Prop := ∃ (k : Nat) (va vb : Vt), k ≤ n ∧ k ≤ 20 ∧ i = .int .i64 (k : Int) ∧ VIs mapT B w ga a1 a2 a3 va ∧ VIs mapT B w gb b1 b2 b3 vb ∧ Twin y va vb ∧ Few va k ∧ Few vb k ∧ Below B w0 w
/-- Where the xor-ing stands. -/
def XorR2 (A : Option Addr) (n c base : Nat) (y : UInt8) (l : List UInt8) (w0 : World) (i : Value) (w : World) : Prop := ∃ j : Nat, j ≤ n ∧ i = .int .i64 (j : Int) ∧ w.ownsRow base 5 1 (.slice A n c) n (u8s (xorAt y l j)) ∧ Below base w0 w
theorem xor_byte (b y : UInt8) : bits BinOp.xor IntKind.u8 (b.toNat : Int) (y.toNat : Int) = ((b ^^^ y).toNat : Int) := u8_xor_nat b.toNat y.toNat b.toNat_lt y.toNat_lt
end Go.Proofs.YtnmhfomnlnlflaaDoor
