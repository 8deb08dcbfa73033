/- symMerge whole, at siblings. No condition. -/
import Derived.Test.YteckblffpidigaaGreatDoorMtStaS
import Derived.Deep.DeepCutAuto
namespace Go.Proofs.YteckblffpidigaaGreatDoor
open Go.Shelf Go.RowKit Go.Lib Go.Sort
variable {α : Type} [Inhabited α]
def StartQ (a m b mid nn : Nat) (v x : Value) : Prop := ∃ st r0 : Nat, v = .int .i64 (st : Int) ∧ x = .int .i64 (r0 : Int) ∧ a ≤ st ∧ st ≤ r0 ∧ r0 ≤ m ∧ nn ≤ b + st ∧ r0 ≤ mid ∧ (st = a ∨ nn = b + st) ∧ (r0 = m ∨ r0 = mid)
set_option maxHeartbeats 8000000 in
set_option maxRecDepth 1000000 in
theorem symMerge_any (k : Nat) (zE : ∀ w, (Go.sizeOf 44).run Tryz.prog w = .ok k w) (enc : α → List Value) (cf : α → α → Int) (g : Nat) (cb : Array Value) (blk off cap : Nat) (d0 : Array α) (w0 : World)
    (eg : ∀ args w, (callFunc g args).run Tryz.prog w = .ok (.enter g args) w) (hcmp : CmpLays Tryz.prog g cb enc k cf blk off d0.size w0) (R : RowK enc k w0 blk off d0) (hO : SWO (ltOf cf)) :
    ∀ (N a m b : Nat) (d : Array α) (w : World), b - a < N → d0.size = d.size → SWK enc k w0 blk off d w → a < m → m < b → b ≤ d.size → d.size < 2000000000 → SortedIn (ltOf cf) a m d → SortedIn (ltOf cf) m b d →
    Calls Tryz.prog 77 #[.slice (some ⟨blk, off, none⟩) d.size cap, .int .i64 a, .int .i64 m, .int .i64 b, .func (.func g) #[] cb] w fun e w' => e = .returned (.tuple #[]) ∧ symL (ltOf cf) a b d (fun F w => SWK enc k w0 blk off F w) w' := by
  intro N
  induction N with
  | zero => intro a m b d w h; omega
  | succ N ih =>
    intro a m b d w hN hs S ham hmb hb hsz hsl hsr
    by_cases h1 : m = a + 1
    · exact symUp_any k zE enc cf g cb blk off cap d0 w0 eg hcmp R hO a m b d w hs S ham hmb hb hsz hsr h1
    by_cases h2 : b = m + 1
    · exact symDown_any k zE enc cf g cb blk off cap d0 w0 eg hcmp R hO a m b d w hs S ham hmb hb hsz hsl h1 h2
    have mixed : Tryz.prog.follows .mixedOrders = true := by kernel_rfl
    have aE := Tryz.isAgg44
    have tS := Tryz.underlying23
    have aS := Tryz.isAgg23
    have zS := Tryz.sizeOf23
    have S1 : Aside (SWK enc k w0 blk off d w) := S
    have HC : Aside _ := hcmp
    have HSL := Lib.hid hsl
    have HSR := Lib.hid hsr
    have HO := Lib.hid hO
    have HR : Hid (∀ (X Y Z : Int) (x y z : Nat) (dk : Array α) (w1 : World), X = (x : Int) → Y = (y : Int) → Z = (z : Int) → dk.size = d.size → x < y → y < z → z ≤ d.size → SWK enc k w0 blk off dk w1 → Calls Tryz.prog 95 #[.slice (some ⟨blk, off, none⟩) d.size cap, .int .i64 X, .int .i64 Y, .int .i64 Z, .func (.func g) #[] cb] w1 fun e w' => e = .returned (.tuple #[]) ∧ ∃ F, Rot x y z dk F ∧ SWK enc k w0 blk off F w') := fun X Y Z x y z dk w1 e1 e2 e3 q1 q2 q3 q4 q5 => by
      subst e1 e2 e3
      rw [← q1]
      exact rotate_any k zE enc blk off cap x y z _ d0 dk w0 w1 R (by omega) q5 q2 q3 (by omega) (by omega)
    have HM : Hid (∀ (X Y Z : Int) (x y z : Nat) (dk : Array α) (w1 : World), X = (x : Int) → Y = (y : Int) → Z = (z : Int) → dk.size = d.size → z - x < N → x < y → y < z → z ≤ d.size → SortedIn (ltOf cf) x y dk → SortedIn (ltOf cf) y z dk → SWK enc k w0 blk off dk w1 → Calls Tryz.prog 77 #[.slice (some ⟨blk, off, none⟩) d.size cap, .int .i64 X, .int .i64 Y, .int .i64 Z, .func (.func g) #[] cb] w1 fun e w' => e = .returned (.tuple #[]) ∧ symL (ltOf cf) x z dk (fun F w => SWK enc k w0 blk off F w) w') := fun X Y Z x y z dk w1 e1 e2 e3 q1 q0 q2 q3 q4 q6 q7 q5 => by
      subst e1 e2 e3
      have := ih x y z dk w1 q0 (by omega) q5 q2 q3 (by omega) (by omega) q6 q7
      rw [q1] at this
      exact this
    have hm1 : ((m : Int) - (a : Int) == 1) = false := beq_false_of_ne (by omega)
    have hm2 : ((b : Int) - (m : Int) == 1) = false := beq_false_of_ne (by omega)
    have hbz : (b : Int) < 2000000000 := by omega
    have hambz : (a : Int) < (m : Int) := by omega
    have hmbz : (m : Int) < (b : Int) := by omega
    have HNb := Lib.hid hN
    clear S hcmp hsl hsr ih h1 h2 hN
    go_enter Tryz.func77, Tryz.ntmps77
    go_upto_region 12 with fail
    go_upto_region 24 with fail
    go_upto_region 25 with fail
    obtain ⟨mid, hmid⟩ : ∃ h, h = (a + b) / 2 := ⟨_, rfl⟩
    have HMI : Hid (((a : Int) + (b : Int)) / 2 = (mid : Int)) := by show _ = _; omega
    have hmida : a < mid := by omega
    have hmidb : mid < b := by omega
    have hmid2 : mid + mid ≤ a + b := by omega
    have hmid3 : a + b ≤ mid + mid + 1 := by omega
    simp only [HMI.out]
    clear hmid
    go_upto_if 140 with fail
    obtain ⟨nn, hnn⟩ : ∃ h, h = mid + m := ⟨_, rfl⟩
    have HNN : Hid ((mid : Int) + (m : Int) = (nn : Int)) := by show _ = _; omega
    simp only [HNN.out]
    have HSA : Hid (mid < m → StartQ a m b mid nn (.int .i64 ((nn : Int) - (b : Int))) (.int .i64 (mid : Int))) := Lib.hid (fun h => ⟨nn - b, mid, congrArg _ (by omega), rfl, by omega, by omega, by omega, by omega, by omega, .inr (by omega), .inr rfl⟩)
    have HSB : Hid (¬ mid < m → StartQ a m b mid nn (.int .i64 (a : Int)) (.int .i64 (m : Int))) := Lib.hid (fun h => ⟨a, m, rfl, rfl, by omega, by omega, by omega, by omega, by omega, .inl rfl, .inl rfl⟩)
    have hnb : (b : Int) ≤ (nn : Int) ∨ ¬ (m : Int) > (mid : Int) := by omega
    have hnz : (nn : Int) < 4000000000 := by omega
    have HNE : Hid (nn = mid + m) := hnn
    clear hnn
    go_cut [20, 21] from 140 to 146 (fun v x wx => StartQ a m b mid nn v x ∧ wx = w)
    case first =>
      by_cases hgt : mid < m
      · have hgz : (mid : Int) < (m : Int) := by omega
        have H2 := Lib.hid (HSA.out hgt)
        have hgd : decide (mid < m) = true := decide_eq_true hgt
        have hbn : b ≤ nn := by omega
        clear hgt HSA HSB hm1 hm2 hnb hmid2 hmid3 hmida hmidb
        clear hambz hmbz hbz hgz
        simp only [hgd]
        clear hgd
        go_wp2_with fail
        go_meet
        exact ⟨H2.out, rfl⟩
      · have hgz : ¬ (mid : Int) < (m : Int) := by omega
        have H2 := Lib.hid (HSB.out hgt)
        have hgd : decide (mid < m) = false := decide_eq_false hgt
        clear hgt HSA HSB hm1 hm2 hnb hmid2 hmid3 hmida hmidb
        clear hambz hmbz hbz hgz
        simp only [hgd]
        clear hgd
        go_wp2_with fail
        go_meet
        exact ⟨H2.out, rfl⟩
    case rest =>
      obtain ⟨hst, rfl⟩ := hcut
      obtain ⟨st, r0, rfl, rfl, q1, q2, q3, q4, q5, HQ6, HQ7⟩ := hst
      replace HQ6 := Lib.hid HQ6
      replace HQ7 := Lib.hid HQ7
      clear HSA HSB hnb
      go_upto_block 8 with fail
      obtain ⟨p, hp⟩ : ∃ p, p + 1 = nn := ⟨nn - 1, by have := HNE.out; omega⟩
      have HP : Hid ((nn : Int) - 1 = (p : Int)) := by show _ = _; omega
      have HPN := Lib.hid hp
      simp only [HP.out]
      clear hp
      go_wp2_with fail
      have hpz : p < d.size + d.size := by have := HNE.out; have := HPN.out; omega
      go_loopg [20, 21] (r0 - st) (fun kx s20 s21 wr => ∃ (s r : Nat), s20 = .int .i64 s ∧ s21 = .int .i64 r ∧ st ≤ s ∧ s ≤ r ∧ r ≤ r0 ∧ r - s ≤ kx ∧ Aside (s = st ∨ ltOf cf d[nn - s]! d[s - 1]! = false) ∧ Aside (r = r0 ∨ ltOf cf d[nn - 1 - r]! d[r]! = true) ∧ Aside (SWK enc k w0 blk off d wr))
      case atStart => exact ⟨st, r0, rfl, rfl, Nat.le_refl _, q2, Nat.le_refl _, by omega, .inl rfl, .inl rfl, S1⟩
      case round =>
        clear S1
        obtain ⟨s, r, rfl, rfl, hss, hsr, hrr, hkx, HLo, HHi, S1⟩ := hrel
        by_cases hlt : s < r
        · have hlz : (s : Int) < (r : Int) := by omega
          have hib : (s : Int) + (r : Int) < 4000000000 := by omega
          go_upto_region 35 with fail
          obtain ⟨c, hc⟩ : ∃ h, h = (s + r) / 2 := ⟨_, rfl⟩
          have HMc : Hid (((s : Int) + (r : Int)) / 2 = (c : Int)) := by show _ = _; omega
          have hc1 : s ≤ c := by omega
          have hc2 : c < r := by omega
          have hcp : c ≤ p := by have := HNE.out; have := HPN.out; omega
          have hpc : p - c < b := by have := HNE.out; have := HPN.out; omega
          have hcm : c < m := by omega
          simp only [HMc.out]
          clear hc
          cases hlv : ltOf cf d[p - c]! d[c]! with
          | true =>
            have eA5 : (((p : Int) - (c : Int)) : Int).toNat = p - c := by omega
            have pA5 : (0 : Int) ≤ ((p : Int) - (c : Int)) := by omega
            have bA5 : ((p : Int) - (c : Int)) < (d.size : Int) := by omega
            have rA5 : IntKind.i64.wrap (((p : Int) - (c : Int))) = ((p : Int) - (c : Int)) := by rw [IntKind.wrap_i64]; omega
            have eB5 : ((c : Int) : Int).toNat = c := by omega
            have pB5 : (0 : Int) ≤ (c : Int) := by omega
            have bB5 : (c : Int) < (d.size : Int) := by omega
            have rB5 : IntKind.i64.wrap ((c : Int)) = (c : Int) := by rw [IntKind.wrap_i64]; omega
            obtain ⟨x5, hx5⟩ : ∃ x, x = d[p - c]! := ⟨_, rfl⟩
            obtain ⟨y5, hy5⟩ : ∃ x, x = d[c]! := ⟨_, rfl⟩
            have lA5 := S1.out.ld R (by omega) Tryz.prog (p - c) (by omega)
            have lB5 := S1.out.ld R (by omega) Tryz.prog (c) (by omega)
            rw [← hx5] at lA5
            rw [← hy5] at lB5
            have hc5 := S1.out.cmp HC.out (by omega) x5 y5
            have hv5 : cf x5 y5 < 0 := by rw [hx5, hy5]; exact of_decide_eq_true hlv
            have hd5 : decide (cf x5 y5 < 0) = true := decide_eq_true hv5
            have HLV := Lib.hid hlv
            clear hx5 hy5 hlv
            go_wp2_with fail
            go_quiet_grown (first | (go_at_fn g; refine Calls.grown_of (hc5 _ _)))
            have SV : Aside (SWK enc k w0 blk off d (grow (wr.drewN nq) osq)) := S1.out.grown nq osq
            clear lA5 lB5 hc5 S1
            generalize grow (wr.drewN nq) osq = wv at SV ⊢
            clear nq osq
            go_wp2
            go_roundg (c - s)
            case measure => omega
            case rel => exact ⟨s, c, rfl, by go_num, hss, hc1, by omega, Nat.le_refl _, HLo, .inr (by have := HPN.out; rw [show nn - 1 - c = p - c by omega]; exact HLV.out), SV⟩
          | false =>
            have eA5 : (((p : Int) - (c : Int)) : Int).toNat = p - c := by omega
            have pA5 : (0 : Int) ≤ ((p : Int) - (c : Int)) := by omega
            have bA5 : ((p : Int) - (c : Int)) < (d.size : Int) := by omega
            have rA5 : IntKind.i64.wrap (((p : Int) - (c : Int))) = ((p : Int) - (c : Int)) := by rw [IntKind.wrap_i64]; omega
            have eB5 : ((c : Int) : Int).toNat = c := by omega
            have pB5 : (0 : Int) ≤ (c : Int) := by omega
            have bB5 : (c : Int) < (d.size : Int) := by omega
            have rB5 : IntKind.i64.wrap ((c : Int)) = (c : Int) := by rw [IntKind.wrap_i64]; omega
            obtain ⟨x5, hx5⟩ : ∃ x, x = d[p - c]! := ⟨_, rfl⟩
            obtain ⟨y5, hy5⟩ : ∃ x, x = d[c]! := ⟨_, rfl⟩
            have lA5 := S1.out.ld R (by omega) Tryz.prog (p - c) (by omega)
            have lB5 := S1.out.ld R (by omega) Tryz.prog (c) (by omega)
            rw [← hx5] at lA5
            rw [← hy5] at lB5
            have hc5 := S1.out.cmp HC.out (by omega) x5 y5
            have hv5 : ¬ cf x5 y5 < 0 := by rw [hx5, hy5]; exact of_decide_eq_false hlv
            have hd5 : decide (cf x5 y5 < 0) = false := decide_eq_false hv5
            have HLV := Lib.hid hlv
            clear hx5 hy5 hlv
            go_wp2_with fail
            go_quiet_grown (first | (go_at_fn g; refine Calls.grown_of (hc5 _ _)))
            have SV : Aside (SWK enc k w0 blk off d (grow (wr.drewN nq) osq)) := S1.out.grown nq osq
            clear lA5 lB5 hc5 S1
            generalize grow (wr.drewN nq) osq = wv at SV ⊢
            clear nq osq
            go_wp2
            go_roundg (r - (c + 1))
            case measure => omega
            case rel => exact ⟨c + 1, r, by go_num, rfl, by omega, by omega, hrr, Nat.le_refl _, .inr (by have := HPN.out; rw [show nn - (c + 1) = p - c by omega, Nat.add_sub_cancel]; exact HLV.out), HHi, SV⟩
        · have hlz : ¬ (s : Int) < (r : Int) := by omega
          have hsr2 : s = r := by omega
          subst hsr2
          go_upto_region 39 with fail
          have hms : s ≤ mid := by omega
          obtain ⟨e, he⟩ : ∃ e, e + s = nn := ⟨nn - s, by have := HNE.out; omega⟩
          have HE : Hid ((nn : Int) - (s : Int) = (e : Int)) := by show _ = _; omega
          simp only [HE.out]
          have HA : Hid (SymAt (ltOf cf) a m b mid s e d) := Lib.hid (by
            have h0 := HNE.out
            refine ⟨by omega, by omega, by omega, by omega, by omega, ?_, ?_⟩
            · rcases HLo.out with h | h
              · rcases HQ6.out with h' | h'
                · exact .inl (by omega)
                · exact .inr (.inl (by omega))
              · rw [show nn - s = e by omega] at h
                exact .inr (.inr h)
            · rcases HHi.out with h | h
              · rcases HQ7.out with h' | h'
                · exact .inl (by omega)
                · exact .inr (.inl (by omega))
              · rw [show nn - 1 - s = e - 1 by omega] at h
                exact .inr (.inr h))
          have hme : mid ≤ e := HA.out.midL.2
          have hae := HA.out.as
          have hse := HA.out.sm
          have hee := HA.out.me
          have hbe := HA.out.eb
          clear he HLo HHi hkx hsr hrr hss hlz hlt hpz
          go_upto_region 39 with fail
          obtain ⟨b1, hb1⟩ : ∃ q, q = decide (s < m ∧ m < e) := ⟨_, rfl⟩
          have HB1 := Lib.hid hb1
          clear hb1
          obtain ⟨wq1, hwq1⟩ : ∃ q, q = wr := ⟨_, rfl⟩
          rw [← hwq1] at S1 ⊢
          clear hwq1
          go_cut [185] from 178 to 185 (fun v wx => v = .bool b1 ∧ wx = wq1)
          case first =>
            by_cases c1 : s < m
            · have z1 : (s : Int) < (m : Int) := by omega
              by_cases c2 : m < e
              · have z2 : (m : Int) < (e : Int) := by omega
                have e0 : Hid (b1 = true) := Lib.hid (by rw [HB1.out]; exact decide_eq_true ⟨c1, c2⟩)
                go_wp2_with fail
                go_meet
                exact ⟨by rw [e0.out], rfl⟩
              · have z2 : ¬ (m : Int) < (e : Int) := by omega
                have e0 : Hid (b1 = false) := Lib.hid (by rw [HB1.out]; exact decide_eq_false (fun h => c2 h.2))
                go_wp2_with fail
                go_meet
                exact ⟨by rw [e0.out], rfl⟩
            · have z1 : ¬ (s : Int) < (m : Int) := by omega
              have e0 : Hid (b1 = false) := Lib.hid (by rw [HB1.out]; exact decide_eq_false (fun h => c1 h.1))
              go_wp2_with fail
              go_meet
              exact ⟨by rw [e0.out], rfl⟩
          case rest =>
            obtain ⟨rfl, rfl⟩ := hcut
            go_upto_if 185 with fail
            go_cut [] from 185 to 191 (fun wx => ∃ F1, Rot s m e d F1 ∧ SWK enc k w0 blk off F1 wx)
            case first =>
              cases b1 with
              | true =>
                have hc := Lib.hid (of_decide_eq_true HB1.out.symm)
                go_wp2_with (go_at_call 95; refine (HR.out _ _ _ s m e d _ rfl rfl rfl rfl hc.out.1 hc.out.2 (by omega) S1.out).mono ?_; rintro e0 w2 ⟨rfl, F1, hR, SF⟩)
                go_meet
                exact ⟨F1, hR, SF⟩
              | false =>
                have hc := Lib.hid (of_decide_eq_false HB1.out.symm)
                go_wp2_with fail
                go_meet
                exact ⟨d, Rot.same d hse hee (by have := hc.out; omega), S1.out⟩
            case rest =>
            obtain ⟨F1, hR1, SF1⟩ := hcut
            have HR1 := Lib.hid hR1
            have hz1 : F1.size = d.size := hR1.perm.1
            have HHv := Lib.hid (HA.out.halves HO.out HSL.out HSR.out hR1)
            replace S1 : Aside (SWK enc k w0 blk off F1 wc) := SF1
            clear hR1 SF1
            go_upto_region 41 with fail
            obtain ⟨b2, hb2⟩ : ∃ q, q = decide (a < s ∧ s < mid) := ⟨_, rfl⟩
            have HB2 := Lib.hid hb2
            clear hb2
            obtain ⟨wq2, hwq2⟩ : ∃ q, q = wc := ⟨_, rfl⟩
            rw [← hwq2] at S1 ⊢
            clear hwq2
            go_cut [199] from 192 to 199 (fun v wx => v = .bool b2 ∧ wx = wq2)
            case first =>
              by_cases c1 : a < s
              · have z1 : (a : Int) < (s : Int) := by omega
                by_cases c2 : s < mid
                · have z2 : (s : Int) < (mid : Int) := by omega
                  have e0 : Hid (b2 = true) := Lib.hid (by rw [HB2.out]; exact decide_eq_true ⟨c1, c2⟩)
                  go_wp2_with fail
                  go_meet
                  exact ⟨by rw [e0.out], rfl⟩
                · have z2 : ¬ (s : Int) < (mid : Int) := by omega
                  have e0 : Hid (b2 = false) := Lib.hid (by rw [HB2.out]; exact decide_eq_false (fun h => c2 h.2))
                  go_wp2_with fail
                  go_meet
                  exact ⟨by rw [e0.out], rfl⟩
              · have z1 : ¬ (a : Int) < (s : Int) := by omega
                have e0 : Hid (b2 = false) := Lib.hid (by rw [HB2.out]; exact decide_eq_false (fun h => c1 h.1))
                go_wp2_with fail
                go_meet
                exact ⟨by rw [e0.out], rfl⟩
            case rest =>
              obtain ⟨rfl, rfl⟩ := hcut
              go_upto_if 199 with fail
              go_cut [] from 199 to 205 (fun wx => ∃ F2, SymQ (ltOf cf) a mid F1 F2 ∧ SWK enc k w0 blk off F2 wx)
              case first =>
                cases b2 with
                | true =>
                  have hc := Lib.hid (of_decide_eq_true HB2.out.symm)
                  go_wp2_with (go_at_call 77; refine (HM.out _ _ _ a s mid F1 _ rfl rfl rfl hz1 (by have := HNb.out; omega) hc.out.1 hc.out.2 (by omega) HHv.out.1 HHv.out.2.1 S1.out).mono ?_; rintro e0 w2 ⟨rfl, F2, hQ, SF⟩)
                  go_meet
                  exact ⟨F2, hQ, SF⟩
                | false =>
                  have hc := Lib.hid (of_decide_eq_false HB2.out.symm)
                  go_wp2_with fail
                  go_meet
                  exact ⟨F1, symLeft_skip HO.out HA.out HSL.out HSR.out HR1.out hc.out, S1.out⟩
              case rest =>
              obtain ⟨F2, hQ2, SF2⟩ := hcut
              have HQ2 := Lib.hid hQ2
              have hz2 : F2.size = d.size := hQ2.1.1.trans hz1
              replace S1 : Aside (SWK enc k w0 blk off F2 wc) := SF2
              clear hQ2 SF2
              go_upto_region 43 with fail
              obtain ⟨b3, hb3⟩ : ∃ q, q = decide (mid < e ∧ e < b) := ⟨_, rfl⟩
              have HB3 := Lib.hid hb3
              clear hb3
              obtain ⟨wq3, hwq3⟩ : ∃ q, q = wc := ⟨_, rfl⟩
              rw [← hwq3] at S1 ⊢
              clear hwq3
              go_cut [213] from 206 to 213 (fun v wx => v = .bool b3 ∧ wx = wq3)
              case first =>
                by_cases c1 : mid < e
                · have z1 : (mid : Int) < (e : Int) := by omega
                  by_cases c2 : e < b
                  · have z2 : (e : Int) < (b : Int) := by omega
                    have e0 : Hid (b3 = true) := Lib.hid (by rw [HB3.out]; exact decide_eq_true ⟨c1, c2⟩)
                    go_wp2_with fail
                    go_meet
                    exact ⟨by rw [e0.out], rfl⟩
                  · have z2 : ¬ (e : Int) < (b : Int) := by omega
                    have e0 : Hid (b3 = false) := Lib.hid (by rw [HB3.out]; exact decide_eq_false (fun h => c2 h.2))
                    go_wp2_with fail
                    go_meet
                    exact ⟨by rw [e0.out], rfl⟩
                · have z1 : ¬ (mid : Int) < (e : Int) := by omega
                  have e0 : Hid (b3 = false) := Lib.hid (by rw [HB3.out]; exact decide_eq_false (fun h => c1 h.1))
                  go_wp2_with fail
                  go_meet
                  exact ⟨by rw [e0.out], rfl⟩
              case rest =>
                obtain ⟨rfl, rfl⟩ := hcut
                cases b3 with
                | true =>
                  have hc := Lib.hid (of_decide_eq_true HB3.out.symm)
                  go_wp2_with (go_at_call 77; refine (HM.out _ _ _ mid e b F2 _ rfl rfl rfl hz2 (by have := HNb.out; omega) hc.out.1 hc.out.2 hb (sorted_keep HHv.out.2.2.1 HQ2.out.1 (.inr (Nat.le_refl _))) (sorted_keep HHv.out.2.2.2.1 HQ2.out.1 (.inr (by omega))) S1.out).mono ?_; rintro e0 w2 ⟨rfl, F3, hQ, SF⟩)
                  go_end0
                  exact ⟨rfl, F3, SymQ.all HO.out HA.out HSL.out HSR.out HR1.out (by omega) (by omega) hb HQ2.out hQ, SF⟩
                | false =>
                  have hc := Lib.hid (of_decide_eq_false HB3.out.symm)
                  go_wp2_with fail
                  go_end0
                  exact ⟨rfl, F2, SymQ.all HO.out HA.out HSL.out HSR.out HR1.out (by omega) (by omega) hb HQ2.out (symRight_skip HO.out HA.out HSL.out HSR.out HR1.out HQ2.out.1 hc.out), S1.out⟩
end Go.Proofs.YteckblffpidigaaGreatDoor
