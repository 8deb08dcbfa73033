/- Texts of one proof, laid as one: part 14. No condition. -/
import Derived.Deep.DeepCutAuto
import Derived.Shelf.SlSortCmp.PdqK
import Derived.Test.YtjpphldojbfpfaaGreatDoorZf13
namespace Go.Proofs.YtjpphldojbfpfaaGreatDoor
open Go.Shelf Go.RowKit Go.Lib Go.Sort
variable {α : Type} [Inhabited α]
def StartQ (a m b mid nn : Nat) (v x : Value) : Prop := ∃ st r0 : Nat, v = .int .i64 (st : Int) ∧ x = .int .i64 (r0 : Int) ∧ a ≤ st ∧ st ≤ r0 ∧ r0 ≤ m ∧ nn ≤ b + st ∧ r0 ≤ mid ∧ (st = a ∨ nn = b + st) ∧ (r0 = m ∨ r0 = mid)
set_option maxHeartbeats 8000000 in
set_option maxRecDepth 1000000 in
theorem symMerge_any (k : Nat) (zE : ∀ w, (Go.sizeOf 45).run Tryz.prog w = .ok k w) (enc : α → List Value) (cf : α → α → Int) (g : Nat) (cb : Array Value) (blk off cap : Nat) (d0 : Array α) (w0 : World)
    (eg : ∀ args w, (callFunc g args).run Tryz.prog w = .ok (.enter g args) w) (hcmp : CmpLays Tryz.prog g cb enc k cf blk off d0.size w0) (R : RowK enc k w0 blk off d0) (hO : SWO (ltOf cf)) :
    ∀ (N a m b : Nat) (d : Array α) (w : World), b - a < N → d0.size = d.size → SWK enc k w0 blk off d w → a < m → m < b → b ≤ d.size → d.size < 2000000000 → SortedIn (ltOf cf) a m d → SortedIn (ltOf cf) m b d →
    Calls Tryz.prog 141 #[.slice (some ⟨blk, off, none⟩) d.size cap, .int .i64 a, .int .i64 m, .int .i64 b, .func (.func g) #[] cb] w fun e w' => e = .returned (.tuple #[]) ∧ symL (ltOf cf) a b d (fun F w => SWK enc k w0 blk off F w) w' := by
  intro N
  induction N with
  | zero => intro a m b d w h; omega
  | succ N ih =>
    intro a m b d w hN hs S ham hmb hb hsz hsl hsr
    by_cases h1 : m = a + 1
    · exact symUp_any k zE enc cf g cb blk off cap d0 w0 eg hcmp R hO a m b d w hs S ham hmb hb hsz hsr h1
    by_cases h2 : b = m + 1
    · exact symDown_any k zE enc cf g cb blk off cap d0 w0 eg hcmp R hO a m b d w hs S ham hmb hb hsz hsl h1 h2
    have mixed : Tryz.prog.follows .mixedOrders = true := by kernel_rfl
    have aE := Tryz.isAgg45; have tS := Tryz.underlying46; have aS := Tryz.isAgg46; have zS := Tryz.sizeOf46; have S1 : Aside (SWK enc k w0 blk off d w) := S; have HC : Aside _ := hcmp; have HSL := Lib.hid hsl; have HSR := Lib.hid hsr; have HO := Lib.hid hO
    have HR : Hid (∀ (X Y Z : Int) (x y z : Nat) (dk : Array α) (w1 : World), X = (x : Int) → Y = (y : Int) → Z = (z : Int) → dk.size = d.size → x < y → y < z → z ≤ d.size → SWK enc k w0 blk off dk w1 → Calls Tryz.prog 154 #[.slice (some ⟨blk, off, none⟩) d.size cap, .int .i64 X, .int .i64 Y, .int .i64 Z, .func (.func g) #[] cb] w1 fun e w' => e = .returned (.tuple #[]) ∧ ∃ F, Rot x y z dk F ∧ SWK enc k w0 blk off F w') := fun X Y Z x y z dk w1 e1 e2 e3 q1 q2 q3 q4 q5 => by
      subst e1 e2 e3; rw [← q1]; exact rotate_any k zE enc blk off cap x y z _ d0 dk w0 w1 R (by omega) q5 q2 q3 (by omega) (by omega)
    have HM : Hid (∀ (X Y Z : Int) (x y z : Nat) (dk : Array α) (w1 : World), X = (x : Int) → Y = (y : Int) → Z = (z : Int) → dk.size = d.size → z - x < N → x < y → y < z → z ≤ d.size → SortedIn (ltOf cf) x y dk → SortedIn (ltOf cf) y z dk → SWK enc k w0 blk off dk w1 → Calls Tryz.prog 141 #[.slice (some ⟨blk, off, none⟩) d.size cap, .int .i64 X, .int .i64 Y, .int .i64 Z, .func (.func g) #[] cb] w1 fun e w' => e = .returned (.tuple #[]) ∧ symL (ltOf cf) x z dk (fun F w => SWK enc k w0 blk off F w) w') := fun X Y Z x y z dk w1 e1 e2 e3 q1 q0 q2 q3 q4 q6 q7 q5 => by
      subst e1 e2 e3; have := ih x y z dk w1 q0 (by omega) q5 q2 q3 (by omega) (by omega) q6 q7; rw [q1] at this; exact this
    have hm1 : ((m : Int) - (a : Int) == 1) = false := beq_false_of_ne (by omega); have hm2 : ((b : Int) - (m : Int) == 1) = false := beq_false_of_ne (by omega); have hbz : (b : Int) < 2000000000 := by omega
    have hambz : (a : Int) < (m : Int) := by omega
    have hmbz : (m : Int) < (b : Int) := by omega
    have HNb := Lib.hid hN; clear S hcmp hsl hsr ih h1 h2 hN
    go_enter Tryz.func141, Tryz.ntmps141
    go_upto_region 12 with fail
    go_upto_region 24 with fail
    go_upto_region 25 with fail
    obtain ⟨mid, hmid⟩ : ∃ h, h = (a + b) / 2 := ⟨_, rfl⟩; have HMI : Hid (((a : Int) + (b : Int)) / 2 = (mid : Int)) := by show _ = _; omega
    have hmida : a < mid := by omega
    have hmidb : mid < b := by omega
    have hmid2 : mid + mid ≤ a + b := by omega
    have hmid3 : a + b ≤ mid + mid + 1 := by omega
    simp only [HMI.out]; clear hmid
    go_upto_if 140 with fail
    obtain ⟨nn, hnn⟩ : ∃ h, h = mid + m := ⟨_, rfl⟩; have HNN : Hid ((mid : Int) + (m : Int) = (nn : Int)) := by show _ = _; omega
    simp only [HNN.out]; have HSA : Hid (mid < m → StartQ a m b mid nn (.int .i64 ((nn : Int) - (b : Int))) (.int .i64 (mid : Int))) := Lib.hid (fun h => ⟨nn - b, mid, congrArg _ (by omega), rfl, by omega, by omega, by omega, by omega, by omega, .inr (by omega), .inr rfl⟩); have HSB : Hid (¬ mid < m → StartQ a m b mid nn (.int .i64 (a : Int)) (.int .i64 (m : Int))) := Lib.hid (fun h => ⟨a, m, rfl, rfl, by omega, by omega, by omega, by omega, by omega, .inl rfl, .inl rfl⟩); have hnb : (b : Int) ≤ (nn : Int) ∨ ¬ (m : Int) > (mid : Int) := by omega
    have hnz : (nn : Int) < 4000000000 := by omega
    have HNE : Hid (nn = mid + m) := hnn; clear hnn
    go_cut [20, 21] from 140 to 146 (fun v x wx => StartQ a m b mid nn v x ∧ wx = w)
    case first =>
      by_cases hgt : mid < m
      · have hgz : (mid : Int) < (m : Int) := by omega
        have H2 := Lib.hid (HSA.out hgt); have hgd : decide (mid < m) = true := decide_eq_true hgt; have hbn : b ≤ nn := by omega
        clear hgt HSA HSB hm1 hm2 hnb hmid2 hmid3 hmida hmidb; clear hambz hmbz hbz hgz; simp only [hgd]; clear hgd; go_wp2_with fail
        go_meet
        exact ⟨H2.out, rfl⟩
      · have hgz : ¬ (mid : Int) < (m : Int) := by omega
        have H2 := Lib.hid (HSB.out hgt); have hgd : decide (mid < m) = false := decide_eq_false hgt; clear hgt HSA HSB hm1 hm2 hnb hmid2 hmid3 hmida hmidb; clear hambz hmbz hbz hgz; simp only [hgd]; clear hgd; go_wp2_with fail
        go_meet
        exact ⟨H2.out, rfl⟩
    case rest =>
      obtain ⟨hst, rfl⟩ := hcut; obtain ⟨st, r0, rfl, rfl, q1, q2, q3, q4, q5, HQ6, HQ7⟩ := hst
      replace HQ6 := Lib.hid HQ6
      replace HQ7 := Lib.hid HQ7
      clear HSA HSB hnb
      go_upto_block 8 with fail
      obtain ⟨p, hp⟩ : ∃ p, p + 1 = nn := ⟨nn - 1, by have := HNE.out; omega⟩; have HP : Hid ((nn : Int) - 1 = (p : Int)) := by show _ = _; omega
      have HPN := Lib.hid hp; simp only [HP.out]; clear hp; go_wp2_with fail
      have hpz : p < d.size + d.size := by have := HNE.out; have := HPN.out; omega
      go_loopg [20, 21] (r0 - st) (fun kx s20 s21 wr => ∃ (s r : Nat), s20 = .int .i64 s ∧ s21 = .int .i64 r ∧ st ≤ s ∧ s ≤ r ∧ r ≤ r0 ∧ r - s ≤ kx ∧ Aside (s = st ∨ ltOf cf d[nn - s]! d[s - 1]! = false) ∧ Aside (r = r0 ∨ ltOf cf d[nn - 1 - r]! d[r]! = true) ∧ Aside (SWK enc k w0 blk off d wr))
      case atStart => exact ⟨st, r0, rfl, rfl, Nat.le_refl _, q2, Nat.le_refl _, by omega, .inl rfl, .inl rfl, S1⟩
      case round =>
        clear S1; obtain ⟨s, r, rfl, rfl, hss, hsr, hrr, hkx, HLo, HHi, S1⟩ := hrel
        by_cases hlt : s < r
        · have hlz : (s : Int) < (r : Int) := by omega
          have hib : (s : Int) + (r : Int) < 4000000000 := by omega
          go_upto_region 35 with fail
          obtain ⟨c, hc⟩ : ∃ h, h = (s + r) / 2 := ⟨_, rfl⟩; have HMc : Hid (((s : Int) + (r : Int)) / 2 = (c : Int)) := by show _ = _; omega
          have hc1 : s ≤ c := by omega
          have hc2 : c < r := by omega
          have hcp : c ≤ p := by have := HNE.out; have := HPN.out; omega
          have hpc : p - c < b := by have := HNE.out; have := HPN.out; omega
          have hcm : c < m := by omega
          simp only [HMc.out]; clear hc; cases hlv : ltOf cf d[p - c]! d[c]! with
          | true =>
            have eA5 : (((p : Int) - (c : Int)) : Int).toNat = p - c := by omega
            have pA5 : (0 : Int) ≤ ((p : Int) - (c : Int)) := by omega
            have bA5 : ((p : Int) - (c : Int)) < (d.size : Int) := by omega
            have rA5 : IntKind.i64.wrap (((p : Int) - (c : Int))) = ((p : Int) - (c : Int)) := by rw [IntKind.wrap_i64]; omega
            have eB5 : ((c : Int) : Int).toNat = c := by omega
            have pB5 : (0 : Int) ≤ (c : Int) := by omega
            have bB5 : (c : Int) < (d.size : Int) := by omega
            have rB5 : IntKind.i64.wrap ((c : Int)) = (c : Int) := by rw [IntKind.wrap_i64]; omega
            obtain ⟨x5, hx5⟩ : ∃ x, x = d[p - c]! := ⟨_, rfl⟩; obtain ⟨y5, hy5⟩ : ∃ x, x = d[c]! := ⟨_, rfl⟩; have lA5 := S1.out.ld R (by omega) Tryz.prog (p - c) (by omega); have lB5 := S1.out.ld R (by omega) Tryz.prog (c) (by omega); rw [← hx5] at lA5; rw [← hy5] at lB5; have hc5 := S1.out.cmp HC.out (by omega) x5 y5; have hv5 : cf x5 y5 < 0 := by rw [hx5, hy5]; exact of_decide_eq_true hlv
            have hd5 : decide (cf x5 y5 < 0) = true := decide_eq_true hv5; have HLV := Lib.hid hlv; clear hx5 hy5 hlv; go_wp2_with fail
            go_quiet_grown (first | (go_at_fn g; refine Calls.grown_of (hc5 _ _)))
            have SV : Aside (SWK enc k w0 blk off d (grow (wr.drewN nq) osq)) := S1.out.grown nq osq; clear lA5 lB5 hc5 S1; generalize grow (wr.drewN nq) osq = wv at SV ⊢; clear nq osq
            go_wp2
            go_roundg (c - s)
            case measure => omega
            case rel => exact ⟨s, c, rfl, by go_num, hss, hc1, by omega, Nat.le_refl _, HLo, .inr (by have := HPN.out; rw [show nn - 1 - c = p - c by omega]; exact HLV.out), SV⟩
          | false =>
            have eA5 : (((p : Int) - (c : Int)) : Int).toNat = p - c := by omega
            have pA5 : (0 : Int) ≤ ((p : Int) - (c : Int)) := by omega
            have bA5 : ((p : Int) - (c : Int)) < (d.size : Int) := by omega
            have rA5 : IntKind.i64.wrap (((p : Int) - (c : Int))) = ((p : Int) - (c : Int)) := by rw [IntKind.wrap_i64]; omega
            have eB5 : ((c : Int) : Int).toNat = c := by omega
            have pB5 : (0 : Int) ≤ (c : Int) := by omega
            have bB5 : (c : Int) < (d.size : Int) := by omega
            have rB5 : IntKind.i64.wrap ((c : Int)) = (c : Int) := by rw [IntKind.wrap_i64]; omega
            obtain ⟨x5, hx5⟩ : ∃ x, x = d[p - c]! := ⟨_, rfl⟩; obtain ⟨y5, hy5⟩ : ∃ x, x = d[c]! := ⟨_, rfl⟩; have lA5 := S1.out.ld R (by omega) Tryz.prog (p - c) (by omega); have lB5 := S1.out.ld R (by omega) Tryz.prog (c) (by omega); rw [← hx5] at lA5; rw [← hy5] at lB5; have hc5 := S1.out.cmp HC.out (by omega) x5 y5; have hv5 : ¬ cf x5 y5 < 0 := by rw [hx5, hy5]; exact of_decide_eq_false hlv
            have hd5 : decide (cf x5 y5 < 0) = false := decide_eq_false hv5; have HLV := Lib.hid hlv; clear hx5 hy5 hlv; go_wp2_with fail
            go_quiet_grown (first | (go_at_fn g; refine Calls.grown_of (hc5 _ _)))
            have SV : Aside (SWK enc k w0 blk off d (grow (wr.drewN nq) osq)) := S1.out.grown nq osq; clear lA5 lB5 hc5 S1; generalize grow (wr.drewN nq) osq = wv at SV ⊢; clear nq osq
            go_wp2
            go_roundg (r - (c + 1))
            case measure => omega
            case rel => exact ⟨c + 1, r, by go_num, rfl, by omega, by omega, hrr, Nat.le_refl _, .inr (by have := HPN.out; rw [show nn - (c + 1) = p - c by omega, Nat.add_sub_cancel]; exact HLV.out), HHi, SV⟩
        · have hlz : ¬ (s : Int) < (r : Int) := by omega
          have hsr2 : s = r := by omega
          subst hsr2
          go_upto_region 39 with fail
          have hms : s ≤ mid := by omega
          obtain ⟨e, he⟩ : ∃ e, e + s = nn := ⟨nn - s, by have := HNE.out; omega⟩; have HE : Hid ((nn : Int) - (s : Int) = (e : Int)) := by show _ = _; omega
          simp only [HE.out]
          have HA : Hid (SymAt (ltOf cf) a m b mid s e d) := Lib.hid (by
            have h0 := HNE.out; refine ⟨by omega, by omega, by omega, by omega, by omega, ?_, ?_⟩
            · rcases HLo.out with h | h
              · rcases HQ6.out with h' | h'
                · exact .inl (by omega)
                · exact .inr (.inl (by omega))
              · rw [show nn - s = e by omega] at h; exact .inr (.inr h)
            · rcases HHi.out with h | h
              · rcases HQ7.out with h' | h'
                · exact .inl (by omega)
                · exact .inr (.inl (by omega))
              · rw [show nn - 1 - s = e - 1 by omega] at h; exact .inr (.inr h))
          have hme : mid ≤ e := HA.out.midL.2; have hae := HA.out.sa; have hse := HA.out.sm; have hee := HA.out.me; have hbe := HA.out.eb; clear he HLo HHi hkx hsr hrr hss hlz hlt hpz
          go_upto_region 39 with fail
          obtain ⟨b1, hb1⟩ : ∃ q, q = decide (s < m ∧ m < e) := ⟨_, rfl⟩; have HB1 := Lib.hid hb1; clear hb1; obtain ⟨wq1, hwq1⟩ : ∃ q, q = wr := ⟨_, rfl⟩; rw [← hwq1] at S1 ⊢; clear hwq1
          go_cut [185] from 178 to 185 (fun v wx => v = .bool b1 ∧ wx = wq1)
          case first =>
            by_cases c1 : s < m
            · have z1 : (s : Int) < (m : Int) := by omega
              by_cases c2 : m < e
              · have z2 : (m : Int) < (e : Int) := by omega
                have e0 : Hid (b1 = true) := Lib.hid (by rw [HB1.out]; exact decide_eq_true ⟨c1, c2⟩); go_wp2_with fail
                go_meet
                exact ⟨by rw [e0.out], rfl⟩
              · have z2 : ¬ (m : Int) < (e : Int) := by omega
                have e0 : Hid (b1 = false) := Lib.hid (by rw [HB1.out]; exact decide_eq_false (fun h => c2 h.2)); go_wp2_with fail
                go_meet
                exact ⟨by rw [e0.out], rfl⟩
            · have z1 : ¬ (s : Int) < (m : Int) := by omega
              have e0 : Hid (b1 = false) := Lib.hid (by rw [HB1.out]; exact decide_eq_false (fun h => c1 h.1)); go_wp2_with fail
              go_meet
              exact ⟨by rw [e0.out], rfl⟩
          case rest =>
            obtain ⟨rfl, rfl⟩ := hcut
            go_upto_if 185 with fail
            go_cut [] from 185 to 191 (fun wx => ∃ F1, Rot s m e d F1 ∧ SWK enc k w0 blk off F1 wx)
            case first =>
              cases b1 with
              | true =>
                have hc := Lib.hid (of_decide_eq_true HB1.out.symm)
                go_wp2_with (go_at_call 154; refine (HR.out _ _ _ s m e d _ rfl rfl rfl rfl hc.out.1 hc.out.2 (by omega) S1.out).mono ?_; rintro e0 w2 ⟨rfl, F1, hR, SF⟩)
                go_meet
                exact ⟨F1, hR, SF⟩
              | false =>
                have hc := Lib.hid (of_decide_eq_false HB1.out.symm); go_wp2_with fail
                go_meet
                exact ⟨d, Rot.same d hse hee (by have := hc.out; omega), S1.out⟩
            case rest =>
            obtain ⟨F1, hR1, SF1⟩ := hcut; have HR1 := Lib.hid hR1; have hz1 : F1.size = d.size := hR1.perm.1; have HHv := Lib.hid (HA.out.halves HO.out HSL.out HSR.out hR1)
            replace S1 : Aside (SWK enc k w0 blk off F1 wc) := SF1
            clear hR1 SF1
            go_upto_region 41 with fail
            obtain ⟨b2, hb2⟩ : ∃ q, q = decide (a < s ∧ s < mid) := ⟨_, rfl⟩; have HB2 := Lib.hid hb2; clear hb2; obtain ⟨wq2, hwq2⟩ : ∃ q, q = wc := ⟨_, rfl⟩; rw [← hwq2] at S1 ⊢; clear hwq2
            go_cut [199] from 192 to 199 (fun v wx => v = .bool b2 ∧ wx = wq2)
            case first =>
              by_cases c1 : a < s
              · have z1 : (a : Int) < (s : Int) := by omega
                by_cases c2 : s < mid
                · have z2 : (s : Int) < (mid : Int) := by omega
                  have e0 : Hid (b2 = true) := Lib.hid (by rw [HB2.out]; exact decide_eq_true ⟨c1, c2⟩); go_wp2_with fail
                  go_meet
                  exact ⟨by rw [e0.out], rfl⟩
                · have z2 : ¬ (s : Int) < (mid : Int) := by omega
                  have e0 : Hid (b2 = false) := Lib.hid (by rw [HB2.out]; exact decide_eq_false (fun h => c2 h.2)); go_wp2_with fail
                  go_meet
                  exact ⟨by rw [e0.out], rfl⟩
              · have z1 : ¬ (a : Int) < (s : Int) := by omega
                have e0 : Hid (b2 = false) := Lib.hid (by rw [HB2.out]; exact decide_eq_false (fun h => c1 h.1)); go_wp2_with fail
                go_meet
                exact ⟨by rw [e0.out], rfl⟩
            case rest =>
              obtain ⟨rfl, rfl⟩ := hcut
              go_upto_if 199 with fail
              go_cut [] from 199 to 205 (fun wx => ∃ F2, SymQ (ltOf cf) a mid F1 F2 ∧ SWK enc k w0 blk off F2 wx)
              case first =>
                cases b2 with
                | true =>
                  have hc := Lib.hid (of_decide_eq_true HB2.out.symm)
                  go_wp2_with (go_at_call 141; refine (HM.out _ _ _ a s mid F1 _ rfl rfl rfl hz1 (by have := HNb.out; omega) hc.out.1 hc.out.2 (by omega) HHv.out.1 HHv.out.2.1 S1.out).mono ?_; rintro e0 w2 ⟨rfl, F2, hQ, SF⟩)
                  go_meet
                  exact ⟨F2, hQ, SF⟩
                | false =>
                  have hc := Lib.hid (of_decide_eq_false HB2.out.symm); go_wp2_with fail
                  go_meet
                  exact ⟨F1, symLeft_skip HO.out HA.out HSL.out HSR.out HR1.out hc.out, S1.out⟩
              case rest =>
              obtain ⟨F2, hQ2, SF2⟩ := hcut; have HQ2 := Lib.hid hQ2; have hz2 : F2.size = d.size := hQ2.1.1.trans hz1
              replace S1 : Aside (SWK enc k w0 blk off F2 wc) := SF2
              clear hQ2 SF2
              go_upto_region 43 with fail
              obtain ⟨b3, hb3⟩ : ∃ q, q = decide (mid < e ∧ e < b) := ⟨_, rfl⟩; have HB3 := Lib.hid hb3; clear hb3; obtain ⟨wq3, hwq3⟩ : ∃ q, q = wc := ⟨_, rfl⟩; rw [← hwq3] at S1 ⊢; clear hwq3
              go_cut [213] from 206 to 213 (fun v wx => v = .bool b3 ∧ wx = wq3)
              case first =>
                by_cases c1 : mid < e
                · have z1 : (mid : Int) < (e : Int) := by omega
                  by_cases c2 : e < b
                  · have z2 : (e : Int) < (b : Int) := by omega
                    have e0 : Hid (b3 = true) := Lib.hid (by rw [HB3.out]; exact decide_eq_true ⟨c1, c2⟩); go_wp2_with fail
                    go_meet
                    exact ⟨by rw [e0.out], rfl⟩
                  · have z2 : ¬ (e : Int) < (b : Int) := by omega
                    have e0 : Hid (b3 = false) := Lib.hid (by rw [HB3.out]; exact decide_eq_false (fun h => c2 h.2)); go_wp2_with fail
                    go_meet
                    exact ⟨by rw [e0.out], rfl⟩
                · have z1 : ¬ (mid : Int) < (e : Int) := by omega
                  have e0 : Hid (b3 = false) := Lib.hid (by rw [HB3.out]; exact decide_eq_false (fun h => c1 h.1)); go_wp2_with fail
                  go_meet
                  exact ⟨by rw [e0.out], rfl⟩
              case rest =>
                obtain ⟨rfl, rfl⟩ := hcut; cases b3 with
                | true =>
                  have hc := Lib.hid (of_decide_eq_true HB3.out.symm)
                  go_wp2_with (go_at_call 141; refine (HM.out _ _ _ mid e b F2 _ rfl rfl rfl hz2 (by have := HNb.out; omega) hc.out.1 hc.out.2 hb (sorted_keep HHv.out.2.2.1 HQ2.out.1 (.inr (Nat.le_refl _))) (sorted_keep HHv.out.2.2.2.1 HQ2.out.1 (.inr (by omega))) S1.out).mono ?_; rintro e0 w2 ⟨rfl, F3, hQ, SF⟩)
                  go_end0
                  exact ⟨rfl, F3, SymQ.all HO.out HA.out HSL.out HSR.out HR1.out (by omega) (by omega) hb HQ2.out hQ, SF⟩
                | false =>
                  have hc := Lib.hid (of_decide_eq_false HB3.out.symm); go_wp2_with fail
                  go_end0
                  exact ⟨rfl, F2, SymQ.all HO.out HA.out HSL.out HSR.out HR1.out (by omega) (by omega) hb HQ2.out (symRight_skip HO.out HA.out HSL.out HSR.out HR1.out HQ2.out.1 hc.out), S1.out⟩
end Go.Proofs.YtjpphldojbfpfaaGreatDoor
namespace Go.Proofs.YtjpphldojbfpfaaGreatDoor
open Go.Shelf Go.RowKit Go.Lib Go.Sort
def SibIns_ren : Go.Shelf.Ren := ⟨fun | 20 => 140 | n => n, fun | 22 => 46 | 24 => 45 | 25 => 146 | 3 => 3 | 0 => 0 | 4 => 4 | n => n, fun | n => n⟩
theorem SibIns : Go.Proofs.SlLaysF0.n20 Tryz.prog SibIns_ren := {
  mixed := by kernel_rfl
  f20 := ⟨Tryz.f140.name, by decide, Tryz.func140.trans (congrArg some (by kernel_rfl))⟩
  t0 := Tryz.underlying0
  a0 := Tryz.isAgg0
  z0 := Tryz.sizeOf0
  v0 := Tryz.zeroValue0
  t3 := Tryz.underlying3
  a3 := Tryz.isAgg3
  z3 := Tryz.sizeOf3
  v3 := Tryz.zeroValue3
  t4 := Tryz.underlying4
  a4 := Tryz.isAgg4
  z4 := Tryz.sizeOf4
  v4 := Tryz.zeroValue4
  t22 := Tryz.underlying46
  a22 := Tryz.isAgg46
  z22 := Tryz.sizeOf46
  v22 := Tryz.zeroValue46
  t25 := Tryz.underlying146
  a25 := Tryz.isAgg146
  z25 := Tryz.sizeOf146
  v25 := Tryz.zeroValue146 }
variable {α : Type} [Inhabited α] {lt : α → α → Bool}
theorem dvd_step {w p a : Nat} (hp : w ∣ p) (ha : w ∣ a) (h : p < a) : p + w ≤ a := by
  have := Nat.le_of_dvd (by omega) (Nat.dvd_sub ha hp); omega
def DoneB (lt : α → α → Bool) (w a : Nat) (d : Array α) : Prop := ∀ p, w ∣ p → p + w ≤ a → SortedIn lt p (p + w) d
def TodoB (lt : α → α → Bool) (w a n : Nat) (d : Array α) : Prop := ∀ p, w ∣ p → a ≤ p → SortedIn lt p (min (p + w) n) d
theorem DoneB.step {w a b : Nat} {d F : Array α} (h : DoneB lt w a d) (ha : w ∣ a) (hb : b = a + w) (hq : SymQ lt a b d F) : DoneB lt w b F := fun p hp hle => by
  rcases Nat.lt_trichotomy p a with h1 | h1 | h1
  · exact sorted_keep (h p hp (dvd_step hp ha h1)) hq.1 (.inl (dvd_step hp ha h1))
  · subst h1; rw [← hb]; exact hq.2
  · have := dvd_step ha hp h1; omega
theorem TodoB.step {w a b n : Nat} {d F : Array α} (h : TodoB lt w a n d) (hab : a ≤ b) (hq : SymQ lt a b d F) : TodoB lt w b n F := fun p hp hle => sorted_keep (h p hp (by omega)) hq.1 (.inr hle)
theorem TodoB.ofDone {w a n : Nat} {d F : Array α} (h : DoneB lt w a d) (ha : w ∣ a) (han : a ≤ n) (hn : n < a + w) (hq : SymQ lt a n d F) : TodoB lt w 0 n F := fun p hp _ => by
  rcases Nat.lt_trichotomy p a with h1 | h1 | h1
  · have h2 := dvd_step hp ha h1; rw [Nat.min_eq_left (by omega)]; exact sorted_keep (h p hp h2) hq.1 (.inl h2)
  · subst h1; rw [Nat.min_eq_right (by omega)]; exact hq.2
  · have := dvd_step ha hp h1; intro i j h1 h2 h3; omega
theorem TodoB.all {w n : Nat} {d : Array α} (h : TodoB lt w 0 n d) (hw : n ≤ w) : SortedIn lt 0 n d := by
  have := h 0 (Nat.dvd_zero w) (Nat.le_refl _)
  rwa [Nat.zero_add, Nat.min_eq_right hw] at this
theorem SymQ.perm2 {a b n : Nat} {d0 d F : Array α} (hp : PermIn 0 n d0 d) (hq : SymQ lt a b d F) (hb : b ≤ n) (hn : n ≤ d.size) : PermIn 0 n d0 F := permIn_trans _ _ _ _ _ hp (permIn_mono _ _ a b 0 n (Nat.zero_le _) hb hn hq.1)
set_option maxHeartbeats 8000000 in
set_option maxRecDepth 1000000 in
theorem stable_any (k : Nat) (zE : ∀ w, (Go.sizeOf 45).run Tryz.prog w = .ok k w) (enc : α → List Value) (cf : α → α → Int) (g : Nat) (cb : Array Value) (blk off cap : Nat) (d : Array α) (w : World)
    (eg : ∀ args w, (callFunc g args).run Tryz.prog w = .ok (.enter g args) w) (hcmp : CmpLays Tryz.prog g cb enc k cf blk off d.size w) (R : RowK enc k w blk off d) (hO : SWO (ltOf cf)) (hsz : d.size < 1000000000) :
    Calls Tryz.prog 110 #[.slice (some ⟨blk, off, none⟩) d.size cap, .int .i64 d.size, .func (.func g) #[] cb] w fun e w' => e = .returned (.tuple #[]) ∧ symL (ltOf cf) 0 d.size d (fun F w' => SWK enc k w blk off F w') w' := by
  obtain ⟨n, hn⟩ : ∃ n, n = d.size := ⟨_, rfl⟩
  have HI : Hid (∀ (X Y : Int) (x y : Nat) (dk : Array α) (w1 : World), X = (x : Int) → Y = (y : Int) → dk.size = n → x ≤ y → y ≤ n → SWK enc k w blk off dk w1 → Calls Tryz.prog 140 #[.slice (some ⟨blk, off, none⟩) n cap, .int .i64 X, .int .i64 Y, .func (.func g) #[] cb] w1 fun e w' => e = .returned (.tuple #[]) ∧ symL (ltOf cf) x y dk (fun F w' => SWK enc k w blk off F w') w') := fun X Y x y dk w1 e1 e2 q1 q2 q3 q5 => by
    subst e1 e2; have h := AnyQ.insertionSortCmpFunc_w SibIns k Tryz.isAgg45 zE enc cf g cb blk off cap x y d dk w w1 eg hcmp R (by omega) q5 hO q2 (by omega) (by omega); change Calls Tryz.prog 140 _ _ _ at h; rw [q1] at h; exact h.mono fun e w' ⟨he, hS⟩ => ⟨he, _, insertionSort_holds hO dk x y q2 (by omega), hS⟩
  have HM : Hid (∀ (X Y Z : Int) (x y z : Nat) (dk : Array α) (w1 : World), X = (x : Int) → Y = (y : Int) → Z = (z : Int) → dk.size = n → x < y → y < z → z ≤ n → SortedIn (ltOf cf) x y dk → SortedIn (ltOf cf) y z dk → SWK enc k w blk off dk w1 → Calls Tryz.prog 141 #[.slice (some ⟨blk, off, none⟩) n cap, .int .i64 X, .int .i64 Y, .int .i64 Z, .func (.func g) #[] cb] w1 fun e w' => e = .returned (.tuple #[]) ∧ symL (ltOf cf) x z dk (fun F w' => SWK enc k w blk off F w') w') := fun X Y Z x y z dk w1 e1 e2 e3 q1 q2 q3 q4 q6 q7 q5 => by
    subst e1 e2 e3; have h := symMerge_any k zE enc cf g cb blk off cap d w eg hcmp R hO (z - x + 1) x y z dk w1 (by omega) (by omega) q5 q2 q3 (by omega) (by omega) q6 q7; rw [q1] at h; exact h
  have S0 : Aside (SWK enc k w blk off d w) := SWK.start R.hH; rw [← hn]; have hnz : (n : Int) < 1000000000 := by omega
  have HN := Lib.hid hn; clear hcmp hn hsz
  go_enter Tryz.func110, Tryz.ntmps110
  go_wp2
  go_loopg [7, 8] (n + 1) (fun kx s7 s8 wr => ∃ (a : Nat) (dk : Array α), s7 = .int .i64 a ∧ s8 = .int .i64 ((a : Int) + 20) ∧ a ≤ n ∧ n + 1 - a ≤ kx ∧ dk.size = n ∧ Aside (20 ∣ a) ∧ Aside (DoneB (ltOf cf) 20 a dk) ∧ Aside (PermIn 0 n d dk) ∧ Aside (SWK enc k w blk off dk wr))
  case atStart => exact ⟨0, d, rfl, rfl, Nat.zero_le _, by omega, HN.out.symm, Nat.dvd_zero _, (fun p _ h => by omega), permIn_refl _ _ _, S0⟩
  case round =>
    clear S0; obtain ⟨a, dk, rfl, rfl, han, hkx, hds, HA, HD, HPm, S1⟩ := hrel
    by_cases hlt : a + 20 ≤ n
    · have hlz : (a : Int) + 20 ≤ (n : Int) := by omega
      go_wp2_with (go_at_call 140; refine (HI.out _ _ a (a + 20) dk _ rfl (by omega) hds (by omega) hlt S1.out).mono ?_; rintro e w2 ⟨rfl, F, hQ, SF⟩)
      go_roundg (n + 1 - (a + 20))
      case measure => omega
      case rel => exact ⟨a + 20, F, by go_num, by go_num, hlt, Nat.le_refl _, hQ.1.1.trans hds, (by have := HA.out; show 20 ∣ a + 20; omega), HD.out.step HA.out rfl hQ, SymQ.perm2 HPm.out hQ hlt (by omega), SF⟩
    · have hlz : ¬ (a : Int) + 20 ≤ (n : Int) := by omega
      go_wp2_with (go_at_call 140; refine (HI.out _ _ a n dk _ rfl rfl hds han (Nat.le_refl _) S1.out).mono ?_; rintro e w2 ⟨rfl, F0, hQ0, SF0⟩)
      have hz0 : F0.size = n := hQ0.1.1.trans hds; have HT0 : Aside (TodoB (ltOf cf) 20 0 n F0) := TodoB.ofDone HD.out HA.out han (by omega) hQ0; have HP0 : Aside (PermIn 0 n d F0) := SymQ.perm2 HPm.out hQ0 (Nat.le_refl _) (by omega); have S2 : Aside (SWK enc k w blk off F0 w2) := SF0; clear HD HA HPm S1 hQ0 SF0 hlz hlt hkx hds
      go_loopg [6] n (fun kx s6 wr => ∃ (q : Nat) (d1 : Array α), s6 = .int .i64 (q : Int) ∧ 20 ≤ q ∧ n - q ≤ kx ∧ d1.size = n ∧ Aside (TodoB (ltOf cf) q 0 n d1) ∧ Aside (PermIn 0 n d d1) ∧ Aside (SWK enc k w blk off d1 wr))
      case atStart => exact ⟨20, F0, rfl, Nat.le_refl _, by omega, hz0, HT0, HP0, S2⟩
      case round =>
        clear S2 HT0 HP0 hz0; obtain ⟨q, d1, rfl, hq20, hkq, hz1, HT1, HP1, S1⟩ := hrel
        by_cases hqn : q < n
        · have hqz : (q : Int) < (n : Int) := by omega
          go_wp2_with fail
          go_simp
          go_loopg [7, 8] (n + 1) (fun kx s7 s8 wr => ∃ (a2 : Nat) (d2 : Array α), s7 = .int .i64 (a2 : Int) ∧ s8 = .int .i64 ((a2 : Int) + 2 * (q : Int)) ∧ a2 ≤ n ∧ n + 1 - a2 ≤ kx ∧ d2.size = n ∧ Aside (2 * q ∣ a2) ∧ Aside (DoneB (ltOf cf) (2 * q) a2 d2) ∧ Aside (TodoB (ltOf cf) q a2 n d2) ∧ Aside (PermIn 0 n d d2) ∧ Aside (SWK enc k w blk off d2 wr))
          case atStart => exact ⟨0, d1, rfl, by go_num, Nat.zero_le _, by omega, hz1, Nat.dvd_zero _, (fun p _ h => by omega), HT1, HP1, S1⟩
          case round =>
            clear S1 HT1 HP1 hz1; obtain ⟨a2, d2, rfl, rfl, han2, hkx, hz2, HA, HD, HT, HP2, S1⟩ := hrel; have HAq : Hid (q ∣ a2) := Nat.dvd_trans (Nat.dvd_mul_left q 2) HA.out
            by_cases hlt2 : a2 + 2 * q ≤ n
            · have hlz2 : (a2 : Int) + 2 * (q : Int) ≤ (n : Int) := by omega
              have HB1 : Hid (SortedIn (ltOf cf) a2 (a2 + q) d2) := by
                have := HT.out a2 HAq.out (Nat.le_refl _)
                rwa [Nat.min_eq_left (by omega)] at this
              have HB2 : Hid (SortedIn (ltOf cf) (a2 + q) (a2 + 2 * q) d2) := by
                have := HT.out (a2 + q) (Nat.dvd_add HAq.out (Nat.dvd_refl q)) (by omega)
                rwa [Nat.min_eq_left (by omega), show a2 + q + q = a2 + 2 * q by omega] at this
              go_wp2_with (go_at_call 141; refine (HM.out _ _ _ a2 (a2 + q) (a2 + 2 * q) d2 _ rfl (by omega) (by omega) hz2 (by omega) (by omega) hlt2 HB1.out HB2.out S1.out).mono ?_; rintro e w3 ⟨rfl, F, hQ, SF⟩)
              go_roundg (n + 1 - (a2 + 2 * q))
              case measure => omega
              case rel => exact ⟨a2 + 2 * q, F, by go_num, by go_num, hlt2, Nat.le_refl _, hQ.1.1.trans hz2, Nat.dvd_add HA.out (Nat.dvd_refl _), HD.out.step HA.out rfl hQ, HT.out.step (by omega) hQ, SymQ.perm2 HP2.out hQ hlt2 (by omega), SF⟩
            · have hlz2 : ¬ (a2 : Int) + 2 * (q : Int) ≤ (n : Int) := by omega
              by_cases hm : a2 + q < n
              · have hmz : (a2 : Int) + (q : Int) < (n : Int) := by omega
                have HB1 : Hid (SortedIn (ltOf cf) a2 (a2 + q) d2) := by
                  have := HT.out a2 HAq.out (Nat.le_refl _)
                  rwa [Nat.min_eq_left (by omega)] at this
                have HB2 : Hid (SortedIn (ltOf cf) (a2 + q) n d2) := by
                  have := HT.out (a2 + q) (Nat.dvd_add HAq.out (Nat.dvd_refl q)) (by omega)
                  rwa [Nat.min_eq_right (by omega)] at this
                go_wp2_with (go_at_call 141; refine (HM.out _ _ _ a2 (a2 + q) n d2 _ rfl (by omega) rfl hz2 (by omega) hm (Nat.le_refl _) HB1.out HB2.out S1.out).mono ?_; rintro e w3 ⟨rfl, F, hQ, SF⟩)
                go_roundg (n - 2 * q)
                case measure => omega
                case rel => exact ⟨2 * q, F, by go_num, by omega, Nat.le_refl _, hQ.1.1.trans hz2, TodoB.ofDone HD.out HA.out han2 (by omega) hQ, SymQ.perm2 HP2.out hQ (Nat.le_refl _) (by omega), SF⟩
              · have hmz : ¬ (a2 : Int) + (q : Int) < (n : Int) := by omega
                have HB1 : Hid (SymQ (ltOf cf) a2 n d2 d2) := by
                  have := HT.out a2 HAq.out (Nat.le_refl _); rw [Nat.min_eq_right (by omega)] at this; exact ⟨permIn_refl _ _ _, this⟩
                go_wp2_with fail
                go_roundg (n - 2 * q)
                case measure => omega
                case rel => exact ⟨2 * q, d2, by go_num, by omega, Nat.le_refl _, hz2, TodoB.ofDone HD.out HA.out han2 (by omega) HB1.out, HP2, S1⟩
        · have hqz : ¬ (q : Int) < (n : Int) := by omega
          go_wp2_with fail
          go_end0
          exact ⟨rfl, d1, ⟨HP1.out, HT1.out.all (by omega)⟩, S1.out⟩
set_option maxHeartbeats 8000000 in
set_option maxRecDepth 1000000 in
theorem sortStable_any (k : Nat) (zE : ∀ w, (Go.sizeOf 45).run Tryz.prog w = .ok k w) (enc : α → List Value) (cf : α → α → Int) (g : Nat) (cb : Array Value) (blk off cap : Nat) (d : Array α) (w : World)
    (eg : ∀ args w, (callFunc g args).run Tryz.prog w = .ok (.enter g args) w) (hcmp : CmpLays Tryz.prog g cb enc k cf blk off d.size w) (R : RowK enc k w blk off d) (hO : SWO (ltOf cf)) (hsz : d.size < 1000000000) :
    Calls Tryz.prog 61 #[.slice (some ⟨blk, off, none⟩) d.size cap, .func (.func g) #[] cb] w fun e w' => e = .returned (.tuple #[]) ∧ symL (ltOf cf) 0 d.size d (fun F w' => SWK enc k w blk off F w') w' := by
  have HS := Lib.hid (stable_any k zE enc cf g cb blk off cap d w eg hcmp R hO hsz); clear hcmp R hO
  go_enter Tryz.func61, Tryz.ntmps61
  go_wp2_with (go_at_call 110; refine HS.out.mono ?_; rintro e w2 ⟨rfl, hF⟩)
  go_end0
  exact ⟨rfl, hF⟩
end Go.Proofs.YtjpphldojbfpfaaGreatDoor
namespace Go.Proofs.YtjpphldojbfpfaaGreatDoor
open Go.RowKit
abbrev SibU := { x : SibV // x.c.upto.length = 16 }
instance : Inhabited SibU := ⟨⟨⟨(0, 0), ctx0, none, 0, [], none, 0⟩, rfl⟩⟩
def sibU (x : SibU) : List Value := sibC x.1
theorem sibU_length (x : SibU) : (sibU x).length = 20 := sibC_length x.2
theorem sibU_one (x : SibU) : ∀ v ∈ sibU x, v.oneCell' = true := sibC_one x.1
def cfU (x y : SibU) : Int := cfD x.1.d y.1.d
theorem ltU (x y : SibU) : ltOf cfU x y = decide (dLt x.1.d y.1.d) := ltD x.1.d y.1.d
theorem swoU : Go.Sort.SWO (ltOf cfU) where
  irrefl x := swoD.irrefl x.1.d
  trans x y z := swoD.trans x.1.d y.1.d z.1.d
  ntrans x y z := swoD.ntrans x.1.d y.1.d z.1.d
theorem cmpLays_sib (blk off size : Nat) (w : World) : CmpLays Tryz.prog 62 #[] sibU 20 cfU blk off size w :=
  fun _ _ _ _ x y => (ordS2_any x.1 y.1 _).mono fun _ _ ⟨he, hw⟩ => ⟨he, hw⟩
section
variable {α : Type} [Inhabited α] {enc : α → List Value} {k : Nat}
theorem flatK_list (hk : ∀ x, (enc x).length = k) (hk0 : 0 < k) (d : Array α) : (Go.Sort.flatK enc k d).toList = d.toList.flatMap enc := by
  apply List.ext_getElem?
  intro t
  by_cases ht : t < d.size * k
  · have h1 := Go.Sort.get_flatK enc k d t ht; have hlt : t / k < d.size := Nat.div_lt_of_lt_mul (by rw [Nat.mul_comm]; exact ht); have hm : t % k < k := Nat.mod_lt _ hk0
    have e1 : (Go.Sort.flatK enc k d).toList[t]? = some ((enc d[t / k]!)[t % k]!) := by
      rw [← h1, Array.getElem?_toList, getElem!_def, Array.getElem?_eq_getElem (by rw [Go.Sort.size_flatK]; exact ht)]
    have e0 : t = t / k * k + t % k := by rw [Nat.mul_comm]; exact (Nat.div_add_mod t k).symm
    have e2 := flat_get hk d.toList (t / k) (t % k) hm; rw [← e0] at e2; rw [e1, e2]
    have e3 : d.toList[t / k]? = some d[t / k]! := by
      rw [Array.getElem?_toList, getElem!_def, Array.getElem?_eq_getElem hlt]
    rw [e3]; show _ = (enc d[t / k]!)[t % k]?; rw [List.getElem!_eq_getElem?_getD, List.getElem?_eq_getElem (by rw [hk]; exact hm)]; rfl
  · rw [List.getElem?_eq_none (by rw [Array.length_toList, Go.Sort.size_flatK]; omega)]; rw [List.getElem?_eq_none]
    have : (d.toList.flatMap enc).length = d.size * k := by
      rw [List.length_flatMap]
      have : (d.toList.map fun x => (enc x).length) = List.replicate d.size k := by
        rw [List.eq_replicate_iff]; refine ⟨by simp, fun b hb => ?_⟩; obtain ⟨x, _, rfl⟩ := List.mem_map.1 hb; exact hk x
      rw [this, List.sum_replicate_nat]
    omega
theorem arr_sort {w : World} {g m : Nat} {t : TypeId} {d : Array α} {os : Array Obj} {F0 rest : List Value} (hA : Arr w g t (F0 ++ rest)) (hl : F0.length = d.size * k) (hk : ∀ x, (enc x).length = k) (hk0 : 0 < k) : Arr (sortWorldK enc k w g 0 m d os) g t (d.toList.flatMap enc ++ rest) := by
  have hg := hA.lt; unfold Arr sortWorldK; rw [Go.Sort.heap_grow_old _ _ (by unfold Go.Sort.putRowK; rw [Go.Sort.size_putRow]; exact hg)]; unfold Go.Sort.putRowK Go.Sort.putRow Go.Sort.mapBlock; show (w.heap.modify g _)[g]? = _; rw [Array.getElem?_modify, if_pos rfl, show w.heap[g]? = some (.cells (F0 ++ rest).toArray t (0, 0)) from hA]; simp only [Option.map_some, Go.Sort.onCells]; congr 2
  apply Array.ext'
  rw [← flatK_list hk hk0 d, List.toList_toArray]; apply List.ext_getElem?
  intro i; unfold Go.Sort.putCells; rw [Array.getElem?_toList, Array.getElem?_mapIdx, Go.Sort.size_flatK]
  by_cases hi : i < d.size * k
  · rw [List.getElem?_append_left (by rw [Array.length_toList, Go.Sort.size_flatK]; exact hi)]
    have : (F0 ++ rest).toArray[i]? = some (F0[i]'(by omega)) := by
      rw [List.getElem?_toArray, List.getElem?_append_left (by omega), List.getElem?_eq_getElem]
    rw [this]; simp only [Option.map_some, Nat.zero_le, Nat.zero_add, hi, and_self, if_true, Nat.sub_zero, id]; rw [Array.getElem?_toList, getElem!_def, Array.getElem?_eq_getElem (by rw [Go.Sort.size_flatK]; exact hi)]
  · rw [List.getElem?_append_right (by rw [Array.length_toList, Go.Sort.size_flatK]; omega), Array.length_toList, Go.Sort.size_flatK, List.getElem?_toArray, List.getElem?_append_right (by omega), hl]; cases rest[i - d.size * k]? with
    | none => rfl
    | some v => simp only [Option.map_some, Nat.zero_le, Nat.zero_add, hi, and_false, if_false]
theorem holds_arr (hk : ∀ x, (enc x).length = k) (hk0 : 0 < k) {w : World} {g : Nat} {t : TypeId} {d : Array α} {rest : List Value} (h : Arr w g t (d.toList.flatMap enc ++ rest)) : Go.Sort.HoldsK enc k w g 0 d := by
  intro i hi; refine ⟨?_, h.frozen _⟩; have hlen : (d.toList.flatMap enc).length = d.size * k := by rw [← flatK_list hk hk0 d, Array.length_toList, Go.Sort.size_flatK]
  rw [Nat.zero_add]; refine h.cell ?_; rw [List.getElem?_append_left (by rw [hlen]; rw [Go.Sort.size_flatK] at hi; exact hi), ← flatK_list hk hk0 d, Array.getElem?_toList, getElem!_def, Array.getElem?_eq_getElem hi]; rfl
end
def SortSQ (L : List SibU) (g : Nat) (rest : List Value) (w : World) (e : Ending) (w' : World) : Prop := e = .returned (.tuple #[]) ∧ ∃ L' : List SibU, L'.Perm L ∧ (L'.Pairwise fun p q => ¬ dLt q.1.d p.1.d) ∧ Arr w' g 45 (L'.flatMap sibU ++ rest) ∧ Kx g w.heap.size w w'
set_option maxRecDepth 100000 in
theorem sortS_any {w : World} {g n c : Nat} {L : List SibU} {rest : List Value} (hA : Arr w g 45 (L.flatMap sibU ++ rest)) (hl : L.length = n) (hn : n ≤ 1000000) :
    Calls Tryz.prog 61 #[.slice (some ⟨g, 0, none⟩) n c, .func (.func 62) #[] #[]] w fun e w' => SortSQ L g rest w e w' := by
  obtain ⟨d, hd⟩ : ∃ d, d = L.toArray := ⟨_, rfl⟩; have hds : d.size = n := by rw [hd]; simpa using hl
  have hdl : d.toList = L := by rw [hd]
  rw [← hdl] at hA; have hH := holds_arr sibU_length (by omega) hA; have hgl := hA.lt; have eg : ∀ args w, (callFunc 62 args).run Tryz.prog w = .ok (.enter 62 args) w := enters_of Tryz.func62 (by kernel_rfl) rfl; have hcon := sortStable_any 20 Tryz.sizeOf45 sibU cfU 62 #[] g 0 c d w eg (cmpLays_sib g 0 d.size w) ⟨sibU_length, sibU_one, hH, hgl⟩ swoU (by omega); rw [hds] at hcon; refine hcon.mono ?_; rintro e w' ⟨rfl, d', ⟨⟨hs', _, hp⟩, hS⟩, m, os, rfl⟩; have hlen : (d.toList.flatMap sibU).length = d'.size * 20 := by rw [← flatK_list sibU_length (by omega) d, Array.length_toList, Go.Sort.size_flatK, hs']
  have hperm : d'.toList.Perm L := by
    have e1 : d'.extract 0 n = d' := by rw [← hds, ← hs']; simp
    have e2 : d.extract 0 n = d := by rw [← hds]; simp
    rw [e1, e2, hdl] at hp; exact hp
  refine ⟨rfl, d'.toList, hperm, ?_, arr_sort hA hlen sibU_length (by omega), ?_⟩
  · rw [List.pairwise_iff_getElem]; intro i j hi hj hij; have hi' : i < d'.size := by simpa using hi
    have hj' : j < d'.size := by simpa using hj
    have := hS i j (Nat.zero_le _) hij (by omega); rw [ltU, decide_eq_false_iff_not] at this; have g1 : d'[i]! = d'.toList[i] := by simp [hi']
    have g2 : d'[j]! = d'.toList[j] := by simp [hj']
    rw [g1, g2] at this; exact this
  · have hb := sortG_below (enc := sibU) (k := 20) (B := 0) (m := m) (d := d') (os := os) (Nat.zero_le _) hgl; exact ⟨hb.os, hb.tape, hb.output, hb.size, fun i hi hne => sortG_other hi hne⟩
end Go.Proofs.YtjpphldojbfpfaaGreatDoor
