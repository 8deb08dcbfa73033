/- The walk of the reference's Open. No condition. -/
import Derived.Test.YtnmhfomnlnlflaaDoorVRefD
namespace Go.Proofs.YtnmhfomnlnlflaaDoor
open Go.RowKit
set_option maxRecDepth 100000 in
set_option maxHeartbeats 4000000 in
theorem docOpen_no (g : Nat) (e c k : Int) (x y : ByteArray) (h : ¬ Right e c k) (w : World) :
    Calls Tryd.prog 30 #[.pointer (some ⟨g, 0, none⟩), .int .i64 e, .int .i64 c, .int .i64 k, .string x, .string y] w fun e w' => e = .returned (.tuple #[.string ⟨#[]⟩, .int .i64 1]) ∧ Gr w w' := by
  have HN := Lib.hid (rright_no e c k h)
  go_enter Tryd.func30, Tryd.ntmps30
  go_wp2_with fail
  refine (HN.out w).mono ?_
  rintro r _ ⟨rfl, rfl⟩
  go_wp2_with fail
  refine bodyPost_ret (results_tmp2 rfl _ _ _) rfl ?_
  exact ⟨rfl, Gr.refl _⟩
set_option maxRecDepth 100000 in
set_option maxHeartbeats 4000000 in
theorem docOpen_short (g : Nat) (e c k : Int) (x y : ByteArray) (h : Right e c k) (hy : y.size < 16) (w : World) :
    Calls Tryd.prog 30 #[.pointer (some ⟨g, 0, none⟩), .int .i64 e, .int .i64 c, .int .i64 k, .string x, .string y] w fun e w' => e = .returned (.tuple #[.string ⟨#[]⟩, .int .i64 2]) ∧ Gr w w' := by
  have HN := Lib.hid (rright_yes e c k h)
  have hyi : (y.size : Int) < 16 := by omega
  clear h
  go_enter Tryd.func30, Tryd.ntmps30
  go_wp2_with fail
  refine (HN.out w).mono ?_
  rintro r _ ⟨rfl, rfl⟩
  go_wp2_with fail
  refine bodyPost_ret (results_tmp2 rfl _ _ _) rfl ?_
  exact ⟨rfl, Gr.refl _⟩
/-- What opening answers. -/
def ROpenR (v : Vt) (e c k : Nat) (wi s : List UInt8) (r : Ending) : Prop := ∃ (x : List UInt8) (n : Nat), r = .returned (.tuple #[.string ⟨x.toArray⟩, .int .i64 (n : Int)]) ∧ v.opens e c k wi s (x, n)
set_option maxRecDepth 100000 in
set_option maxHeartbeats 8000000 in
theorem docOpen_real {B : Nat} {w : World} {g : Nat} {v : Vt} (hR : RIs B w g v) (hi : v.ideal = false) (e c k : Nat) (wi s : List UInt8) (hr : Right e c k) (hs : 16 ≤ s.length) (hw : wi.length ≤ 9000) (hs2 : s.length ≤ 9000) :
    Calls Tryd.prog 30 #[.pointer (some ⟨g, 0, none⟩), .int .i64 (e : Int), .int .i64 (c : Int), .int .i64 (k : Int), .string ⟨wi.toArray⟩, .string ⟨s.toArray⟩] w fun r w' => ROpenR v e c k wi s r ∧ Gr w w' := by
  have HN := Lib.hid (rright_yes (e : Int) (c : Int) (k : Int) hr)
  have hKl := hR.len
  obtain ⟨_, he2, _, hc2, _, hk2⟩ := hr
  obtain ⟨xw, hxw⟩ : ∃ s : ByteArray, s = ⟨wi.toArray⟩ := ⟨_, rfl⟩
  obtain ⟨xb, hxb⟩ : ∃ q : ByteArray, q = ⟨s.toArray⟩ := ⟨_, rfl⟩
  have hbs : xb.size = s.length := by rw [hxb]; rfl
  obtain ⟨kk, hkk⟩ : ∃ s : ByteArray, s = ⟨v.key.toArray⟩ := ⟨_, rfl⟩
  obtain ⟨sk, hsk⟩ : ∃ s : ByteArray, s = ⟨(sealKL v.key e).toArray⟩ := ⟨_, rfl⟩
  obtain ⟨sn, hsn⟩ : ∃ s : ByteArray, s = ⟨(nonceL c k).toArray⟩ := ⟨_, rfl⟩
  have HK : Hid (∀ w, Calls Tryd.prog 44 #[.string kk, .int .i64 (e : Int)] w fun r w' => r = .returned (.string sk) ∧ Below w.heap.size w w') := by
    intro w
    rw [hkk, hsk]
    exact refSealK_any v.key hKl e (by omega) w
  have HC : Hid (∀ w, Calls Tryd.prog 45 #[.int .i64 (c : Int), .int .i64 (k : Int)] w fun r w' => r = .returned (.string sn) ∧ Below w.heap.size w w') := by
    intro w
    rw [hsn]
    exact refNonce_any c k (by omega) (by omega) w
  have HO : Hid (∀ w, Calls Tryd.prog 46 #[.string sk, .string sn, .string xw, .string xb] w fun r w' => (∃ (x : ByteArray) (b : Bool) (X : List UInt8), r = .returned (.tuple #[.string x, .bool b]) ∧ x = ⟨X.toArray⟩ ∧ v.opens e c k wi s (if b then (X, 0) else ([], 6))) ∧ Below w.heap.size w w') := by
    intro w
    rw [hsk, hsn, hxw, hxb]
    refine (rOpen_any _ (by simp) _ (by simp) wi s (by omega) (by omega) w).mono ?_
    rintro r w' ⟨hq, hB⟩
    refine ⟨?_, hB⟩
    rcases hq with ⟨h1, _⟩ | ⟨_, h1, h2⟩ | ⟨_, h1, h2⟩
    · omega
    · refine ⟨_, false, [], h2, rfl, ?_⟩
      rw [Vt.opens, if_neg (by omega), hi]
      simp [h1]
    · refine ⟨_, true, _, h2, rfl, ?_⟩
      rw [Vt.opens, if_neg (by omega), hi]
      simp [h1]
  obtain ⟨A, n, D, m, a1, _, _⟩ := hR.mem
  have c0 : w.cell? ⟨g, 0, none⟩ = some (.bool v.ideal) := a1.cell rfl
  have c1 : w.cell? ⟨g, 1, none⟩ = some (.string kk) := by rw [hkk]; exact a1.cell rfl
  rw [hi] at c0
  rw [← hxw, ← hxb]
  have hyi : ¬ (xb.size : Int) < 16 := by omega
  clear hxw hxb hkk hsk hsn a1 hR hi hbs
  go_enter Tryd.func30, Tryd.ntmps30
  go_wp2_with fail
  refine (HN.out w).mono ?_
  rintro r _ ⟨rfl, rfl⟩
  go_wp2_with fail
  refine (HK.out _).mono ?_
  rintro r w1 ⟨rfl, hB1⟩
  go_wp2_with fail
  refine (HC.out _).mono ?_
  rintro r w2 ⟨rfl, hB2⟩
  go_wp2_with fail
  refine (HO.out _).mono ?_
  rintro r w3 ⟨⟨x, b, X, rfl, hx, ho⟩, hB3⟩
  have hG3 : Gr w w3 := (Gr.trans hB1 hB2).trans hB3
  have HX := Lib.hid hx
  have HOP := Lib.hid ho
  clear hx ho
  rcases b with _ | _
  · go_wp2_with fail
    refine bodyPost_ret (results_tmp2 rfl _ _ _) rfl ?_
    exact ⟨⟨[], 6, rfl, HOP.out⟩, hG3⟩
  · go_wp2_with fail
    refine bodyPost_ret (results_tmp2 rfl _ _ _) rfl ?_
    rw [HX.out]
    exact ⟨⟨X, 0, rfl, HOP.out⟩, hG3⟩
end Go.Proofs.YtnmhfomnlnlflaaDoor
