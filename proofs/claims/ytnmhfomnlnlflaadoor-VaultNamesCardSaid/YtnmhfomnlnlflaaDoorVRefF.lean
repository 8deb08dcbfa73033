/- The walk of the reference's Open: an ideal vault. No condition. -/
import Derived.Test.YtnmhfomnlnlflaaDoorVRefE
namespace Go.Proofs.YtnmhfomnlnlflaaDoor
open Go.RowKit
set_option maxRecDepth 100000 in
set_option maxHeartbeats 32000000 in
theorem docOpen_ideal {B : Nat} {w : World} {g : Nat} {v : Vt} (hR : RIs B w g v) (hi : v.ideal = true) (e c k : Nat) (wi s : List UInt8) (hr : Right e c k) (hs : 16 ≤ s.length) (hL : v.L.length ≤ 1000) :
    Calls Tryd.prog 30 #[.pointer (some ⟨g, 0, none⟩), .int .i64 (e : Int), .int .i64 (c : Int), .int .i64 (k : Int), .string ⟨wi.toArray⟩, .string ⟨s.toArray⟩] w fun r w' => ROpenR v e c k wi s r ∧ Gr w w' := by
  have HN := Lib.hid (rright_yes (e : Int) (c : Int) (k : Int) hr)
  obtain ⟨xw, hxw⟩ : ∃ s : ByteArray, s = ⟨wi.toArray⟩ := ⟨_, rfl⟩
  obtain ⟨xs, hxs⟩ : ∃ q : ByteArray, q = ⟨s.toArray⟩ := ⟨_, rfl⟩
  have hbs : xs.size = s.length := by rw [hxs]; rfl
  have hyi : ¬ (xs.size : Int) < 16 := by omega
  have HIT : Hid (∀ x, x ∈ v.L → x.same e c k wi s → v.opens e c k wi s (x.b, 0)) := by
    intro x hx h
    rw [Vt.opens, if_neg (by omega), if_pos hi]
    exact .inl ⟨x, hx, h, rfl⟩
  have MISS : Hid ((∀ x ∈ v.L, ¬ x.same e c k wi s) → v.opens e c k wi s ([], 6)) := by
    intro h
    rw [Vt.opens, if_neg (by omega), if_pos hi]
    exact .inr ⟨h, rfl⟩
  obtain ⟨A, n, D, cD, a1, _, a3⟩ := hR.mem
  obtain ⟨len, hlen⟩ : ∃ n, n = v.L.length := ⟨_, rfl⟩
  rw [← hlen] at a1 a3
  have c0 : w.cell? ⟨g, 0, none⟩ = some (.bool v.ideal) := a1.cell rfl
  have c3 : w.cell? ⟨g, 3, none⟩ = some (.slice D len cD) := a1.cell rfl
  rw [hi] at c0
  have hlb : len ≤ 1000 := by omega
  have HLN := Lib.hid hlen
  rw [← hxw, ← hxs]
  have HXW := Lib.hid hxw
  have HXS := Lib.hid hxs
  clear hxw hxs a1 hR hi hbs hlen hL hr hs
  go_enter Tryd.func30, Tryd.ntmps30
  go_wp2_with fail
  refine (HN.out w).mono ?_
  rintro r _ ⟨rfl, rfl⟩
  go_wp2_with fail
  go_simp
  go_loopw [16] (fun i wr => ∃ j : Nat, j ≤ len ∧ i = .int .i64 j ∧ (∀ q x, q < j → v.L[q]? = some x → ¬ x.same e c k wi s) ∧ Gr w wr)
    (fun i _ => len - (intOf i).toNat)
  case atStart => exact ⟨0, Nat.zero_le _, rfl, fun q x hq => absurd hq (by omega), Gr.refl _⟩
  case round =>
    obtain ⟨j, hjl, rfl, hno, hG⟩ := hrel
    have c3r := hG.cell c3
    have a3r := Gr.own hG a3
    by_cases hlt : j < len
    · obtain ⟨x, hx⟩ : ∃ x, v.L[j]? = some x := ⟨v.L[j]'(by have := HLN.out; omega), List.getElem?_eq_getElem (by have := HLN.out; omega)⟩
      obtain ⟨gN, rfl, hc⟩ := own_at6 a3r hlt
      obtain ⟨sw, hsw⟩ : ∃ q : ByteArray, q = ⟨x.wi.toArray⟩ := ⟨_, rfl⟩
      obtain ⟨so, hso⟩ : ∃ q : ByteArray, q = ⟨x.out.toArray⟩ := ⟨_, rfl⟩
      obtain ⟨sb, hsb⟩ : ∃ q : ByteArray, q = ⟨x.b.toArray⟩ := ⟨_, rfl⟩
      have q0 : wr.cell? ⟨gN, j * 6, none⟩ = some (.int .i64 (x.epoch : Int)) := by rw [Nat.mul_comm]; exact hc 0 _ (by rw [flat6 _ j x hx 0 (by omega)]; rfl)
      have q1 : wr.cell? ⟨gN, j * 6 + 1, none⟩ = some (.int .i64 (x.client : Int)) := by rw [Nat.mul_comm]; exact hc 1 _ (by rw [flat6 _ j x hx 1 (by omega)]; rfl)
      have q2 : wr.cell? ⟨gN, j * 6 + 2, none⟩ = some (.int .i64 (x.counter : Int)) := by rw [Nat.mul_comm]; exact hc 2 _ (by rw [flat6 _ j x hx 2 (by omega)]; rfl)
      have q3 : wr.cell? ⟨gN, j * 6 + 3, none⟩ = some (.string sw) := by rw [Nat.mul_comm, hsw]; exact hc 3 _ (by rw [flat6 _ j x hx 3 (by omega)]; rfl)
      have q4 : wr.cell? ⟨gN, j * 6 + 4, none⟩ = some (.string sb) := by rw [Nat.mul_comm, hsb]; exact hc 4 _ (by rw [flat6 _ j x hx 4 (by omega)]; rfl)
      have q5 : wr.cell? ⟨gN, j * 6 + 5, none⟩ = some (.string so) := by rw [Nat.mul_comm, hso]; exact hc 5 _ (by rw [flat6 _ j x hx 5 (by omega)]; rfl)
      have hlti : (j : Int) < (len : Int) := by omega
      have HX := Lib.hid hx
      have HSW := Lib.hid hsw
      have HSO := Lib.hid hso
      have HSB := Lib.hid hsb
      have HNO := Lib.hid hno
      have HSTEP : Hid (¬ x.same e c k wi s → ∀ q y, q < j + 1 → v.L[q]? = some y → ¬ y.same e c k wi s) := by
        intro hxe q y hq hy
        rcases Nat.lt_or_ge q j with h | h
        · exact hno q y h hy
        · obtain rfl : q = j := by omega
          rw [hx] at hy
          injection hy with hy
          rw [← hy]; exact hxe
      clear hx hc hsw hso hsb hno
      by_cases h0 : x.epoch = e
      rotate_left
      · have p0 : ((x.epoch : Int) == (e : Int)) = false := by
          simp only [beq_eq_false_iff_ne, ne_eq]
          omega
        have hxe : ¬ x.same e c k wi s := fun h => h0 h.1
        have hno2 := HSTEP.out hxe
        clear hxe h0
        go_wp2_with fail
        go_roundw
        case rel => exact ⟨j + 1, by omega, by go_num, hno2, hG.trans (Gr.alloc _ _)⟩
        case measure => simp [intOf]; omega
      have p0 : ((x.epoch : Int) == (e : Int)) = true := by rw [h0]; exact beq_self_eq_true _
      by_cases h1 : x.client = c
      rotate_left
      · have p1 : ((x.client : Int) == (c : Int)) = false := by
          simp only [beq_eq_false_iff_ne, ne_eq]
          omega
        have hxe : ¬ x.same e c k wi s := fun h => h1 h.2.1
        have hno2 := HSTEP.out hxe
        clear hxe h1
        go_wp2_with fail
        go_roundw
        case rel => exact ⟨j + 1, by omega, by go_num, hno2, hG.trans (Gr.alloc _ _)⟩
        case measure => simp [intOf]; omega
      have p1 : ((x.client : Int) == (c : Int)) = true := by rw [h1]; exact beq_self_eq_true _
      by_cases h2 : x.counter = k
      rotate_left
      · have p2 : ((x.counter : Int) == (k : Int)) = false := by
          simp only [beq_eq_false_iff_ne, ne_eq]
          omega
        have hxe : ¬ x.same e c k wi s := fun h => h2 h.2.2.1
        have hno2 := HSTEP.out hxe
        clear hxe h2
        go_wp2_with fail
        go_roundw
        case rel => exact ⟨j + 1, by omega, by go_num, hno2, hG.trans (Gr.alloc _ _)⟩
        case measure => simp [intOf]; omega
      have p2 : ((x.counter : Int) == (k : Int)) = true := by rw [h2]; exact beq_self_eq_true _
      by_cases h3 : x.wi = wi
      rotate_left
      · have p3 : (sw.toList == xw.toList) = false := str_otherL HSW.out HXW.out h3
        have hxe : ¬ x.same e c k wi s := fun h => h3 h.2.2.2.1
        have hno2 := HSTEP.out hxe
        clear hxe h3
        go_wp2_with fail
        go_roundw
        case rel => exact ⟨j + 1, by omega, by go_num, hno2, hG.trans (Gr.alloc _ _)⟩
        case measure => simp [intOf]; omega
      have p3 : (sw.toList == xw.toList) = true := str_sameL HSW.out HXW.out h3
      by_cases h4 : x.out = s
      rotate_left
      · have p4 : (so.toList == xs.toList) = false := str_otherL HSO.out HXS.out h4
        have hxe : ¬ x.same e c k wi s := fun h => h4 h.2.2.2.2
        have hno2 := HSTEP.out hxe
        clear hxe h4
        go_wp2_with fail
        go_roundw
        case rel => exact ⟨j + 1, by omega, by go_num, hno2, hG.trans (Gr.alloc _ _)⟩
        case measure => simp [intOf]; omega
      have p4 : (so.toList == xs.toList) = true := str_sameL HSO.out HXS.out h4
      have hit := HIT.out x (sealed_mem HX.out) ⟨h0, h1, h2, h3, h4⟩
      have HHIT := Lib.hid hit
      clear hit h0 h1 h2 h3 h4
      go_wp2_with fail
      refine bodyPost_ret (results_tmp2 rfl _ _ _) rfl ?_
      rw [HSB.out]
      exact ⟨⟨x.b, 0, rfl, HHIT.out⟩, hG.trans (Gr.alloc _ _)⟩
    · have hlt2 : ¬ (j : Int) < (len : Int) := by omega
      have hmiss := MISS.out (fun x hx => by
        obtain ⟨q, hq, he⟩ := List.getElem_of_mem hx
        exact hno q x (by have := HLN.out; omega) (by rw [List.getElem?_eq_getElem hq, he]))
      have HM := Lib.hid hmiss
      clear hmiss hno
      go_wp2_with fail
      refine bodyPost_ret (results_tmp2 rfl _ _ _) rfl ?_
      exact ⟨⟨[], 6, rfl, HM.out⟩, hG⟩
end Go.Proofs.YtnmhfomnlnlflaaDoor

