/- Texts of one proof, laid as one: part 13. No condition. -/
import Derived.Test.YtjpphldojbfpfaaGreatDoorZf12
namespace Go.Proofs.YtjpphldojbfpfaaGreatDoor
open Go.Shelf Go.RowKit Go.Lib Go.Sort
variable {α : Type} [Inhabited α]
variable {lt : α → α → Bool}
theorem bs_lo (hS : SWO lt) {lo hi h j : Nat} {d : Array α} {x : α} (hs : SortedIn lt lo hi d) (hj : lo ≤ j) (hjh : j ≤ h) (hh : h < hi) (ht : lt d[h]! x = true) : lt d[j]! x = true := by
  cases hb : lt d[j]! x with
  | true => rfl
  | false =>
    have := hS.ntrans _ _ _ (SWO.le_of hS hs hj hjh hh) hb; rw [this] at ht; cases ht
theorem bs_hi (hS : SWO lt) {lo hi h j : Nat} {d : Array α} {x : α} (hs : SortedIn lt lo hi d) (hh : lo ≤ h) (hhj : h ≤ j) (hj : j < hi) (ht : lt d[h]! x = false) : lt d[j]! x = false :=
  hS.ntrans _ _ _ (SWO.le_of hS hs hh hhj hj) ht
theorem bt_lo (hS : SWO lt) {lo hi h j : Nat} {d : Array α} {x : α} (hs : SortedIn lt lo hi d) (hj : lo ≤ j) (hjh : j ≤ h) (hh : h < hi) (ht : lt x d[h]! = false) : lt x d[j]! = false :=
  hS.ntrans _ _ _ ht (SWO.le_of hS hs hj hjh hh)
theorem bt_hi (hS : SWO lt) {lo hi h j : Nat} {d : Array α} {x : α} (hs : SortedIn lt lo hi d) (hh : lo ≤ h) (hhj : h ≤ j) (hj : j < hi) (ht : lt x d[h]! = true) : lt x d[j]! = true := by
  cases hb : lt x d[j]! with
  | true => rfl
  | false =>
    have := hS.ntrans _ _ _ hb (SWO.le_of hS hs hh hhj hj); rw [this] at ht; cases ht
structure UpR (a q b : Nat) (d dk : Array α) : Prop where
  perm : PermIn a b d dk
  get : ∀ x, dk[x]! = if a ≤ x ∧ x + 1 < q + 1 then d[x + 1]! else if x + 1 = q + 1 then d[a]! else d[x]!
theorem UpR.start {a b : Nat} {d : Array α} : UpR a a b d d := ⟨permIn_refl _ _ _, fun x => by
  rw [if_neg (by omega)]; split
  · congr 1; omega
  · rfl⟩
theorem UpR.step {a q b : Nat} {d dk : Array α} (h : UpR a q b d dk) (ha : a ≤ q) (hq : q + 1 < b) (hb : b ≤ d.size) : UpR a (q + 1) b d (swp dk q (q + 1)) := by
  have hs := h.perm.1; refine ⟨permIn_trans _ _ _ _ _ h.perm (swp_permIn _ a b q (q + 1) ha (by omega) (by omega) hq (by omega)), fun x => ?_⟩; rw [swp_get _ (by omega) (by omega), h.get, h.get, h.get]
  by_cases c1 : x = q + 1
  · rw [if_pos c1, if_neg (by omega), if_pos (by omega), if_neg (by omega), if_pos (by omega)]
  · rw [if_neg c1]
    by_cases c2 : x = q
    · rw [if_pos c2, if_neg (by omega), if_neg (by omega), if_pos (by omega)]; subst c2; rfl
    · rw [if_neg c2]
      by_cases c3 : a ≤ x ∧ x + 1 < q + 1
      · rw [if_pos c3, if_pos (by omega)]
      · rw [if_neg c3, if_neg (by omega), if_neg (by omega), if_neg (by omega)]
structure DownR (a q m b : Nat) (d dk : Array α) : Prop where
  perm : PermIn a b d dk
  get : ∀ x, dk[x]! = if x = q then d[m]! else if q < x ∧ x ≤ m then d[x - 1]! else d[x]!
theorem DownR.start {a m b : Nat} {d : Array α} : DownR a m m b d d := ⟨permIn_refl _ _ _, fun x => by
  split
  · congr 1
  · rw [if_neg (by omega)]⟩
theorem DownR.step {a q m b : Nat} {d dk : Array α} (h : DownR a (q + 1) m b d dk) (ha : a ≤ q) (hq : q + 1 ≤ m) (hm : m < b) (hb : b ≤ d.size) : DownR a q m b d (swp dk (q + 1) q) := by
  have hs := h.perm.1; refine ⟨permIn_trans _ _ _ _ _ h.perm (swp_permIn _ a b (q + 1) q (by omega) (by omega) ha (by omega) (by omega)), fun x => ?_⟩; rw [swp_get _ (by omega) (by omega), h.get, h.get, h.get]
  by_cases c1 : x = q
  · rw [if_pos c1, if_pos rfl, if_pos c1]
  · rw [if_neg c1, if_neg c1]
    by_cases c2 : x = q + 1
    · rw [if_pos c2, if_neg (by omega), if_neg (by omega), if_pos (by omega)]; congr 1; omega
    · rw [if_neg c2, if_neg c2]
      by_cases c3 : q + 1 < x ∧ x ≤ m
      · rw [if_pos c3, if_pos (by omega)]
      · rw [if_neg c3, if_neg (by omega)]
def symL (lt : α → α → Bool) (a b : Nat) (d : Array α) (T : Array α → World → Prop) (w : World) : Prop := ∃ F, SymQ lt a b d F ∧ T F w
set_option maxHeartbeats 8000000 in
set_option maxRecDepth 1000000 in
theorem symUp_any (k : Nat) (zE : ∀ w, (Go.sizeOf 45).run Tryz.prog w = .ok k w) (enc : α → List Value) (cf : α → α → Int) (g : Nat) (cb : Array Value) (blk off cap : Nat) (d0 : Array α) (w0 : World)
    (eg : ∀ args w, (callFunc g args).run Tryz.prog w = .ok (.enter g args) w) (hcmp : CmpLays Tryz.prog g cb enc k cf blk off d0.size w0) (R : RowK enc k w0 blk off d0) (hO : SWO (ltOf cf))
    (a m b : Nat) (d : Array α) (w : World) (hs : d0.size = d.size) (S : SWK enc k w0 blk off d w) (_ham : a < m) (hmb : m < b) (hb : b ≤ d.size) (hsz : d.size < 2000000000) (hsr : SortedIn (ltOf cf) m b d) (h1 : m = a + 1) :
    Calls Tryz.prog 141 #[.slice (some ⟨blk, off, none⟩) d.size cap, .int .i64 a, .int .i64 m, .int .i64 b, .func (.func g) #[] cb] w fun e w' => e = .returned (.tuple #[]) ∧ symL (ltOf cf) a b d (fun F w => SWK enc k w0 blk off F w) w' := by
  have mixed : Tryz.prog.follows .mixedOrders = true := by kernel_rfl
  have aE := Tryz.isAgg45; have tS := Tryz.underlying46; have aS := Tryz.isAgg46; have zS := Tryz.sizeOf46; have S0 : Aside (SWK enc k w0 blk off d w) := S; have HC : Aside _ := hcmp; have HSR := Lib.hid hsr; have HO := Lib.hid hO; have hm1 : (m : Int) - (a : Int) = 1 := by omega
  have H1 := Lib.hid h1; clear S hcmp hsr h1
  go_enter Tryz.func141, Tryz.ntmps141
  go_wp2
  go_loopg [10, 11] (b - m) (fun kx s10 s11 wr => ∃ (i j : Nat), s10 = .int .i64 i ∧ s11 = .int .i64 j ∧ m ≤ i ∧ i ≤ j ∧ j ≤ b ∧ j - i ≤ kx ∧ Aside (∀ q, m ≤ q → q < i → ltOf cf d[q]! d[a]! = true) ∧ Aside (∀ q, j ≤ q → q < b → ltOf cf d[q]! d[a]! = false) ∧ Aside (SWK enc k w0 blk off d wr))
  case atStart => exact ⟨m, b, rfl, rfl, Nat.le_refl _, by omega, Nat.le_refl _, by omega, (fun q h1 h2 => by omega), (fun q h1 h2 => by omega), S0⟩
  case round =>
    clear S0; obtain ⟨i, j, rfl, rfl, hmi, hij, hjb, hkx, HL, HH, S1⟩ := hrel
    by_cases hlt : i < j
    · have hlz : (i : Int) < (j : Int) := by omega
      have hib : (i : Int) + (j : Int) < 4000000000 := by omega
      go_upto_region 5 with fail
      obtain ⟨h, hh⟩ : ∃ h, h = (i + j) / 2 := ⟨_, rfl⟩; have HM : Hid (((i : Int) + (j : Int)) / 2 = (h : Int)) := by show _ = _; omega
      have hh1 : i ≤ h := by omega
      have hh2 : h < j := by omega
      simp only [HM.out]; clear hh; cases hlv : ltOf cf d[h]! d[a]! with
      | true =>
        have eA5 : ((h : Int) : Int).toNat = h := by omega
        have pA5 : (0 : Int) ≤ (h : Int) := by omega
        have bA5 : (h : Int) < (d.size : Int) := by omega
        have rA5 : IntKind.i64.wrap ((h : Int)) = (h : Int) := by rw [IntKind.wrap_i64]; omega
        have eB5 : ((a : Int) : Int).toNat = a := by omega
        have pB5 : (0 : Int) ≤ (a : Int) := by omega
        have bB5 : (a : Int) < (d.size : Int) := by omega
        have rB5 : IntKind.i64.wrap ((a : Int)) = (a : Int) := by rw [IntKind.wrap_i64]; omega
        obtain ⟨x5, hx5⟩ : ∃ x, x = d[h]! := ⟨_, rfl⟩; obtain ⟨y5, hy5⟩ : ∃ x, x = d[a]! := ⟨_, rfl⟩; have lA5 := S1.out.ld R (by omega) Tryz.prog (h) (by omega); have lB5 := S1.out.ld R (by omega) Tryz.prog (a) (by omega); rw [← hx5] at lA5; rw [← hy5] at lB5; have hc5 := S1.out.cmp HC.out (by omega) x5 y5; have hv5 : cf x5 y5 < 0 := by rw [hx5, hy5]; exact of_decide_eq_true hlv
        have hd5 : decide (cf x5 y5 < 0) = true := decide_eq_true hv5; have HLV := Lib.hid hlv; clear hx5 hy5 hlv; go_wp2_with fail
        go_quiet_grown (first | (go_at_fn g; refine Calls.grown_of (hc5 _ _)))
        have SV : Aside (SWK enc k w0 blk off d (grow (wr.drewN nq) osq)) := S1.out.grown nq osq; clear lA5 lB5 hc5 S1; generalize grow (wr.drewN nq) osq = wv at SV ⊢; clear nq osq
        go_wp2
        go_roundg (j - (h + 1))
        case measure => omega
        case rel => exact ⟨h + 1, j, by go_num, rfl, by omega, by omega, hjb, Nat.le_refl _, (fun q q1 q2 => bs_lo HO.out HSR.out q1 (by omega) (by omega) HLV.out), HH, SV⟩
      | false =>
        have eA5 : ((h : Int) : Int).toNat = h := by omega
        have pA5 : (0 : Int) ≤ (h : Int) := by omega
        have bA5 : (h : Int) < (d.size : Int) := by omega
        have rA5 : IntKind.i64.wrap ((h : Int)) = (h : Int) := by rw [IntKind.wrap_i64]; omega
        have eB5 : ((a : Int) : Int).toNat = a := by omega
        have pB5 : (0 : Int) ≤ (a : Int) := by omega
        have bB5 : (a : Int) < (d.size : Int) := by omega
        have rB5 : IntKind.i64.wrap ((a : Int)) = (a : Int) := by rw [IntKind.wrap_i64]; omega
        obtain ⟨x5, hx5⟩ : ∃ x, x = d[h]! := ⟨_, rfl⟩; obtain ⟨y5, hy5⟩ : ∃ x, x = d[a]! := ⟨_, rfl⟩; have lA5 := S1.out.ld R (by omega) Tryz.prog (h) (by omega); have lB5 := S1.out.ld R (by omega) Tryz.prog (a) (by omega); rw [← hx5] at lA5; rw [← hy5] at lB5; have hc5 := S1.out.cmp HC.out (by omega) x5 y5; have hv5 : ¬ cf x5 y5 < 0 := by rw [hx5, hy5]; exact of_decide_eq_false hlv
        have hd5 : decide (cf x5 y5 < 0) = false := decide_eq_false hv5; have HLV := Lib.hid hlv; clear hx5 hy5 hlv; go_wp2_with fail
        go_quiet_grown (first | (go_at_fn g; refine Calls.grown_of (hc5 _ _)))
        have SV : Aside (SWK enc k w0 blk off d (grow (wr.drewN nq) osq)) := S1.out.grown nq osq; clear lA5 lB5 hc5 S1; generalize grow (wr.drewN nq) osq = wv at SV ⊢; clear nq osq
        go_wp2
        go_roundg (h - i)
        case measure => omega
        case rel => exact ⟨i, h, rfl, rfl, hmi, hh1, by omega, Nat.le_refl _, HL, (fun q q1 q2 => bs_hi HO.out HSR.out (by omega) q1 q2 HLV.out), SV⟩
    · have hlz : ¬ (i : Int) < (j : Int) := by omega
      have hij2 : i = j := by omega
      subst hij2
      go_wp2
      go_loopg [13] (b - a) (fun kx s13 wr => ∃ (q : Nat) (dk : Array α), s13 = .int .i64 q ∧ a ≤ q ∧ q + 1 ≤ i ∧ i - q ≤ kx ∧ dk.size = d.size ∧ Aside (UpR a q b d dk) ∧ Aside (SWK enc k w0 blk off dk wr))
      case atStart => exact ⟨a, d, rfl, Nat.le_refl _, by omega, by omega, rfl, UpR.start, S1⟩
      case round =>
        clear S1; obtain ⟨q, dk, rfl, haq, hqi, hkq, hds, HU, S1⟩ := hrel
        by_cases hqlt : q + 1 < i
        · have hqz : (q : Int) < (i : Int) - 1 := by omega
          have eA11 : ((q : Int) : Int).toNat = q := by omega
          have pA11 : (0 : Int) ≤ (q : Int) := by omega
          have bA11 : (q : Int) < (d.size : Int) := by omega
          have rA11 : IntKind.i64.wrap ((q : Int)) = (q : Int) := by rw [IntKind.wrap_i64]; omega
          have eB11 : (((q : Int) + 1) : Int).toNat = q + 1 := by omega
          have pB11 : (0 : Int) ≤ ((q : Int) + 1) := by omega
          have bB11 : ((q : Int) + 1) < (d.size : Int) := by omega
          have rB11 : IntKind.i64.wrap (((q : Int) + 1)) = ((q : Int) + 1) := by rw [IntKind.wrap_i64]; omega
          have S2 : Aside (SWK enc k w0 blk off (swp dk (q) (q + 1)) ((wr.drew.setCells blk (off + (q) * k) (enc dk[q + 1]!)).setCells blk (off + (q + 1) * k) (enc dk[q]!))) := S1.out.swapped R (q) (q + 1) (by omega) (by omega); have lA11 := S1.out.ld1 R (by omega) Tryz.prog (q) (by omega); have lB11 := S1.out.ld1 R (by omega) Tryz.prog (q + 1) (by omega); have sA11 := S1.out.st1 R (by omega) Tryz.prog (q) (by omega) dk[q + 1]!; have sB11 := S1.out.st2 R (by omega) Tryz.prog (q) (q + 1) (by omega) (by omega) dk[q + 1]! dk[q]!; have nA11 : (enc dk[q]!).length = k := R.hk _; have nB11 : (enc dk[q + 1]!).length = k := R.hk _; generalize enc dk[q]! = cI11 at S2 lA11 sB11 nA11; generalize enc dk[q + 1]! = cJ11 at S2 lB11 sA11 sB11 nB11; clear S1; go_wp2_with fail
          go_big_region_o
          clear lA11 lB11 sA11 sB11; generalize (wr.drew.setCells blk (off + (q) * k) cJ11).setCells blk (off + (q + 1) * k) cI11 = w2 at S2 ⊢
          go_wp2
          go_roundg (i - (q + 1))
          case measure => omega
          case rel => exact ⟨q + 1, swp dk q (q + 1), by go_num, by omega, by omega, Nat.le_refl _, by rw [swp_size]; exact hds, HU.out.step haq (by omega) hb, S2⟩
        · have hqz : ¬ (q : Int) < (i : Int) - 1 := by omega
          have hqe : q + 1 = i := by omega
          have HQ : SymQ (ltOf cf) a b d dk := ⟨HU.out.perm, sym_one HO.out H1.out hmi hjb HSR.out HL.out HH.out (fun x => by rw [HU.out.get, hqe])⟩; have HQ2 := Lib.hid HQ; clear HQ hqe
          go_wp2
          refine bodyPost_ret (results_none rfl _ _ _) rfl ?_; exact ⟨rfl, dk, HQ2.out, S1.out⟩
set_option maxHeartbeats 8000000 in
set_option maxRecDepth 1000000 in
theorem symDown_any (k : Nat) (zE : ∀ w, (Go.sizeOf 45).run Tryz.prog w = .ok k w) (enc : α → List Value) (cf : α → α → Int) (g : Nat) (cb : Array Value) (blk off cap : Nat) (d0 : Array α) (w0 : World)
    (eg : ∀ args w, (callFunc g args).run Tryz.prog w = .ok (.enter g args) w) (hcmp : CmpLays Tryz.prog g cb enc k cf blk off d0.size w0) (R : RowK enc k w0 blk off d0) (hO : SWO (ltOf cf))
    (a m b : Nat) (d : Array α) (w : World) (hs : d0.size = d.size) (S : SWK enc k w0 blk off d w) (ham : a < m) (hmb : m < b) (hb : b ≤ d.size) (hsz : d.size < 2000000000) (hsl : SortedIn (ltOf cf) a m d) (h1 : ¬ m = a + 1) (h2 : b = m + 1) :
    Calls Tryz.prog 141 #[.slice (some ⟨blk, off, none⟩) d.size cap, .int .i64 a, .int .i64 m, .int .i64 b, .func (.func g) #[] cb] w fun e w' => e = .returned (.tuple #[]) ∧ symL (ltOf cf) a b d (fun F w => SWK enc k w0 blk off F w) w' := by
  have mixed : Tryz.prog.follows .mixedOrders = true := by kernel_rfl
  have aE := Tryz.isAgg45; have tS := Tryz.underlying46; have aS := Tryz.isAgg46; have zS := Tryz.sizeOf46; have S0 : Aside (SWK enc k w0 blk off d w) := S; have HC : Aside _ := hcmp; have HSL := Lib.hid hsl; have HO := Lib.hid hO; have hm1 : ¬ (m : Int) - (a : Int) = 1 := by omega
  have hm2 : (b : Int) - (m : Int) = 1 := by omega
  have H2 := Lib.hid h2; clear S hcmp hsl h1 h2
  go_enter Tryz.func141, Tryz.ntmps141
  go_wp2
  go_simp
  go_loopg [14, 15] (m - a) (fun kx s14 s15 wr => ∃ (i j : Nat), s14 = .int .i64 i ∧ s15 = .int .i64 j ∧ a ≤ i ∧ i ≤ j ∧ j ≤ m ∧ j - i ≤ kx ∧ Aside (∀ q, a ≤ q → q < i → ltOf cf d[m]! d[q]! = false) ∧ Aside (∀ q, j ≤ q → q < m → ltOf cf d[m]! d[q]! = true) ∧ Aside (SWK enc k w0 blk off d wr))
  case atStart => exact ⟨a, m, rfl, rfl, Nat.le_refl _, by omega, Nat.le_refl _, by omega, (fun q h1 h2 => by omega), (fun q h1 h2 => by omega), S0⟩
  case round =>
    clear S0; obtain ⟨i, j, rfl, rfl, hmi, hij, hjb, hkx, HL, HH, S1⟩ := hrel
    by_cases hlt : i < j
    · have hlz : (i : Int) < (j : Int) := by omega
      have hib : (i : Int) + (j : Int) < 4000000000 := by omega
      go_upto_region 17 with fail
      obtain ⟨h, hh⟩ : ∃ h, h = (i + j) / 2 := ⟨_, rfl⟩; have HM : Hid (((i : Int) + (j : Int)) / 2 = (h : Int)) := by show _ = _; omega
      have hh1 : i ≤ h := by omega
      have hh2 : h < j := by omega
      simp only [HM.out]; clear hh; cases hlv : ltOf cf d[m]! d[h]! with
      | true =>
        have eA5 : ((m : Int) : Int).toNat = m := by omega
        have pA5 : (0 : Int) ≤ (m : Int) := by omega
        have bA5 : (m : Int) < (d.size : Int) := by omega
        have rA5 : IntKind.i64.wrap ((m : Int)) = (m : Int) := by rw [IntKind.wrap_i64]; omega
        have eB5 : ((h : Int) : Int).toNat = h := by omega
        have pB5 : (0 : Int) ≤ (h : Int) := by omega
        have bB5 : (h : Int) < (d.size : Int) := by omega
        have rB5 : IntKind.i64.wrap ((h : Int)) = (h : Int) := by rw [IntKind.wrap_i64]; omega
        obtain ⟨x5, hx5⟩ : ∃ x, x = d[m]! := ⟨_, rfl⟩; obtain ⟨y5, hy5⟩ : ∃ x, x = d[h]! := ⟨_, rfl⟩; have lA5 := S1.out.ld R (by omega) Tryz.prog (m) (by omega); have lB5 := S1.out.ld R (by omega) Tryz.prog (h) (by omega); rw [← hx5] at lA5; rw [← hy5] at lB5; have hc5 := S1.out.cmp HC.out (by omega) x5 y5; have hv5 : cf x5 y5 < 0 := by rw [hx5, hy5]; exact of_decide_eq_true hlv
        have hd5 : decide (cf x5 y5 < 0) = true := decide_eq_true hv5; have HLV := Lib.hid hlv; clear hx5 hy5 hlv; go_wp2_with fail
        go_quiet_grown (first | (go_at_fn g; refine Calls.grown_of (hc5 _ _)))
        have SV : Aside (SWK enc k w0 blk off d (grow (wr.drewN nq) osq)) := S1.out.grown nq osq; clear lA5 lB5 hc5 S1; generalize grow (wr.drewN nq) osq = wv at SV ⊢; clear nq osq
        go_wp2
        go_roundg (h - i)
        case measure => omega
        case rel => exact ⟨i, h, rfl, by go_num, hmi, hh1, by omega, Nat.le_refl _, HL, (fun q q1 q2 => bt_hi HO.out HSL.out (by omega) q1 q2 HLV.out), SV⟩
      | false =>
        have eA5 : ((m : Int) : Int).toNat = m := by omega
        have pA5 : (0 : Int) ≤ (m : Int) := by omega
        have bA5 : (m : Int) < (d.size : Int) := by omega
        have rA5 : IntKind.i64.wrap ((m : Int)) = (m : Int) := by rw [IntKind.wrap_i64]; omega
        have eB5 : ((h : Int) : Int).toNat = h := by omega
        have pB5 : (0 : Int) ≤ (h : Int) := by omega
        have bB5 : (h : Int) < (d.size : Int) := by omega
        have rB5 : IntKind.i64.wrap ((h : Int)) = (h : Int) := by rw [IntKind.wrap_i64]; omega
        obtain ⟨x5, hx5⟩ : ∃ x, x = d[m]! := ⟨_, rfl⟩; obtain ⟨y5, hy5⟩ : ∃ x, x = d[h]! := ⟨_, rfl⟩; have lA5 := S1.out.ld R (by omega) Tryz.prog (m) (by omega); have lB5 := S1.out.ld R (by omega) Tryz.prog (h) (by omega); rw [← hx5] at lA5; rw [← hy5] at lB5; have hc5 := S1.out.cmp HC.out (by omega) x5 y5; have hv5 : ¬ cf x5 y5 < 0 := by rw [hx5, hy5]; exact of_decide_eq_false hlv
        have hd5 : decide (cf x5 y5 < 0) = false := decide_eq_false hv5; have HLV := Lib.hid hlv; clear hx5 hy5 hlv; go_wp2_with fail
        go_quiet_grown (first | (go_at_fn g; refine Calls.grown_of (hc5 _ _)))
        have SV : Aside (SWK enc k w0 blk off d (grow (wr.drewN nq) osq)) := S1.out.grown nq osq; clear lA5 lB5 hc5 S1; generalize grow (wr.drewN nq) osq = wv at SV ⊢; clear nq osq
        go_wp2
        go_roundg (j - (h + 1))
        case measure => omega
        case rel => exact ⟨h + 1, j, by go_num, rfl, by omega, by omega, hjb, Nat.le_refl _, (fun q q1 q2 => bt_lo HO.out HSL.out q1 (by omega) (by omega) HLV.out), HH, SV⟩
    · have hlz : ¬ (i : Int) < (j : Int) := by omega
      have hij2 : i = j := by omega
      subst hij2
      go_wp2
      go_loopg [17] (b - a) (fun kx s17 wr => ∃ (q : Nat) (dk : Array α), s17 = .int .i64 q ∧ i ≤ q ∧ q ≤ m ∧ q - i ≤ kx ∧ dk.size = d.size ∧ Aside (DownR a q m b d dk) ∧ Aside (SWK enc k w0 blk off dk wr))
      case atStart => exact ⟨m, d, rfl, by omega, Nat.le_refl _, by omega, rfl, DownR.start, S1⟩
      case round =>
        clear S1; obtain ⟨qq, dk, rfl, haq, hqi, hkq, hds, HU, S1⟩ := hrel
        by_cases hqlt : i < qq
        · obtain ⟨q, rfl⟩ : ∃ q, qq = q + 1 := ⟨qq - 1, by omega⟩; have hqz : (i : Int) < (q : Int) + 1 := by omega
          have eA11 : (((q : Int) + 1) : Int).toNat = q + 1 := by omega
          have pA11 : (0 : Int) ≤ ((q : Int) + 1) := by omega
          have bA11 : ((q : Int) + 1) < (d.size : Int) := by omega
          have rA11 : IntKind.i64.wrap (((q : Int) + 1)) = ((q : Int) + 1) := by rw [IntKind.wrap_i64]; omega
          have eB11 : ((q : Int) : Int).toNat = q := by omega
          have pB11 : (0 : Int) ≤ (q : Int) := by omega
          have bB11 : (q : Int) < (d.size : Int) := by omega
          have rB11 : IntKind.i64.wrap ((q : Int)) = (q : Int) := by rw [IntKind.wrap_i64]; omega
          have S2 : Aside (SWK enc k w0 blk off (swp dk (q + 1) (q)) ((wr.drew.setCells blk (off + (q + 1) * k) (enc dk[q]!)).setCells blk (off + (q) * k) (enc dk[q + 1]!))) := S1.out.swapped R (q + 1) (q) (by omega) (by omega); have lA11 := S1.out.ld1 R (by omega) Tryz.prog (q + 1) (by omega); have lB11 := S1.out.ld1 R (by omega) Tryz.prog (q) (by omega); have sA11 := S1.out.st1 R (by omega) Tryz.prog (q + 1) (by omega) dk[q]!; have sB11 := S1.out.st2 R (by omega) Tryz.prog (q + 1) (q) (by omega) (by omega) dk[q]! dk[q + 1]!; have nA11 : (enc dk[q + 1]!).length = k := R.hk _; have nB11 : (enc dk[q]!).length = k := R.hk _; generalize enc dk[q + 1]! = cI11 at S2 lA11 sB11 nA11; generalize enc dk[q]! = cJ11 at S2 lB11 sA11 sB11 nB11; clear S1; go_wp2_with fail
          go_big_region_o
          clear lA11 lB11 sA11 sB11; generalize (wr.drew.setCells blk (off + (q + 1) * k) cJ11).setCells blk (off + (q) * k) cI11 = w2 at S2 ⊢
          go_wp2
          go_roundg (q - i)
          case measure => omega
          case rel => exact ⟨q, swp dk (q + 1) q, by go_num, by omega, by omega, Nat.le_refl _, by rw [swp_size]; exact hds, HU.out.step (by omega) (by omega) (by omega) hb, S2⟩
        · have hqz : ¬ (i : Int) < (qq : Int) := by omega
          have hqe : qq = i := by omega
          have HQ : SymQ (ltOf cf) a b d dk := ⟨HU.out.perm, sym_other HO.out H2.out hmi hjb HSL.out HL.out HH.out (fun x => by rw [HU.out.get, hqe])⟩; have HQ2 := Lib.hid HQ; clear HQ hqe
          go_wp2
          refine bodyPost_ret (results_none rfl _ _ _) rfl ?_; exact ⟨rfl, dk, HQ2.out, S1.out⟩
end Go.Proofs.YtjpphldojbfpfaaGreatDoor
