/- slices.SortStableFunc at siblings. No condition. -/
import Derived.Test.YteckblffpidigaaGreatDoorMtStaT
import Derived.Shelf.SlSortCmp.PdqK
namespace Go.Proofs.YteckblffpidigaaGreatDoor
open Go.Shelf Go.RowKit Go.Lib Go.Sort
def SibIns_ren : Go.Shelf.Ren := ⟨fun | 20 => 76 | n => n, fun | 22 => 23 | 24 => 44 | 25 => 70 | 3 => 3 | 0 => 0 | 4 => 4 | n => n, fun | n => n⟩
theorem SibIns : Go.Proofs.SlLaysF0.n20 Tryz.prog SibIns_ren := {
  mixed := by kernel_rfl
  f20 := ⟨Tryz.f76.name, by decide, Tryz.func76.trans (congrArg some (by kernel_rfl))⟩
  t0 := Tryz.underlying0
  a0 := Tryz.isAgg0
  z0 := Tryz.sizeOf0
  v0 := Tryz.zeroValue0
  t3 := Tryz.underlying3
  a3 := Tryz.isAgg3
  z3 := Tryz.sizeOf3
  v3 := Tryz.zeroValue3
  t4 := Tryz.underlying4
  a4 := Tryz.isAgg4
  z4 := Tryz.sizeOf4
  v4 := Tryz.zeroValue4
  t22 := Tryz.underlying23
  a22 := Tryz.isAgg23
  z22 := Tryz.sizeOf23
  v22 := Tryz.zeroValue23
  t25 := Tryz.underlying70
  a25 := Tryz.isAgg70
  z25 := Tryz.sizeOf70
  v25 := Tryz.zeroValue70 }
variable {α : Type} [Inhabited α] {lt : α → α → Bool}
theorem dvd_step {w p a : Nat} (hp : w ∣ p) (ha : w ∣ a) (h : p < a) : p + w ≤ a := by
  have := Nat.le_of_dvd (by omega) (Nat.dvd_sub ha hp)
  omega
/-- Blocks of w are sorted, up to a; from a on. -/
def DoneB (lt : α → α → Bool) (w a : Nat) (d : Array α) : Prop := ∀ p, w ∣ p → p + w ≤ a → SortedIn lt p (p + w) d
def TodoB (lt : α → α → Bool) (w a n : Nat) (d : Array α) : Prop := ∀ p, w ∣ p → a ≤ p → SortedIn lt p (min (p + w) n) d
theorem DoneB.step {w a b : Nat} {d F : Array α} (h : DoneB lt w a d) (ha : w ∣ a) (hb : b = a + w) (hq : SymQ lt a b d F) : DoneB lt w b F := fun p hp hle => by
  rcases Nat.lt_trichotomy p a with h1 | h1 | h1
  · exact sorted_keep (h p hp (dvd_step hp ha h1)) hq.1 (.inl (dvd_step hp ha h1))
  · subst h1; rw [← hb]; exact hq.2
  · have := dvd_step ha hp h1
    omega
theorem TodoB.step {w a b n : Nat} {d F : Array α} (h : TodoB lt w a n d) (hab : a ≤ b) (hq : SymQ lt a b d F) : TodoB lt w b n F := fun p hp hle => sorted_keep (h p hp (by omega)) hq.1 (.inr hle)
/-- The last block. -/
theorem TodoB.ofDone {w a n : Nat} {d F : Array α} (h : DoneB lt w a d) (ha : w ∣ a) (han : a ≤ n) (hn : n < a + w) (hq : SymQ lt a n d F) : TodoB lt w 0 n F := fun p hp _ => by
  rcases Nat.lt_trichotomy p a with h1 | h1 | h1
  · have h2 := dvd_step hp ha h1
    rw [Nat.min_eq_left (by omega)]
    exact sorted_keep (h p hp h2) hq.1 (.inl h2)
  · subst h1
    rw [Nat.min_eq_right (by omega)]
    exact hq.2
  · have := dvd_step ha hp h1
    intro i j h1 h2 h3
    omega
theorem TodoB.all {w n : Nat} {d : Array α} (h : TodoB lt w 0 n d) (hw : n ≤ w) : SortedIn lt 0 n d := by
  have := h 0 (Nat.dvd_zero w) (Nat.le_refl _)
  rwa [Nat.zero_add, Nat.min_eq_right hw] at this
theorem SymQ.perm2 {a b n : Nat} {d0 d F : Array α} (hp : PermIn 0 n d0 d) (hq : SymQ lt a b d F) (hb : b ≤ n) (hn : n ≤ d.size) : PermIn 0 n d0 F := permIn_trans _ _ _ _ _ hp (permIn_mono _ _ a b 0 n (Nat.zero_le _) hb hn hq.1)
set_option maxHeartbeats 8000000 in
set_option maxRecDepth 1000000 in
theorem stable_any (k : Nat) (zE : ∀ w, (Go.sizeOf 44).run Tryz.prog w = .ok k w) (enc : α → List Value) (cf : α → α → Int) (g : Nat) (cb : Array Value) (blk off cap : Nat) (d : Array α) (w : World)
    (eg : ∀ args w, (callFunc g args).run Tryz.prog w = .ok (.enter g args) w) (hcmp : CmpLays Tryz.prog g cb enc k cf blk off d.size w) (R : RowK enc k w blk off d) (hO : SWO (ltOf cf)) (hsz : d.size < 1000000000) :
    Calls Tryz.prog 59 #[.slice (some ⟨blk, off, none⟩) d.size cap, .int .i64 d.size, .func (.func g) #[] cb] w fun e w' => e = .returned (.tuple #[]) ∧ symL (ltOf cf) 0 d.size d (fun F w' => SWK enc k w blk off F w') w' := by
  obtain ⟨n, hn⟩ : ∃ n, n = d.size := ⟨_, rfl⟩
  have HI : Hid (∀ (X Y : Int) (x y : Nat) (dk : Array α) (w1 : World), X = (x : Int) → Y = (y : Int) → dk.size = n → x ≤ y → y ≤ n → SWK enc k w blk off dk w1 → Calls Tryz.prog 76 #[.slice (some ⟨blk, off, none⟩) n cap, .int .i64 X, .int .i64 Y, .func (.func g) #[] cb] w1 fun e w' => e = .returned (.tuple #[]) ∧ symL (ltOf cf) x y dk (fun F w' => SWK enc k w blk off F w') w') := fun X Y x y dk w1 e1 e2 q1 q2 q3 q5 => by
    subst e1 e2
    have h := AnyQ.insertionSortCmpFunc_w SibIns k Tryz.isAgg44 zE enc cf g cb blk off cap x y d dk w w1 eg hcmp R (by omega) q5 hO q2 (by omega) (by omega)
    change Calls Tryz.prog 76 _ _ _ at h
    rw [q1] at h
    exact h.mono fun e w' ⟨he, hS⟩ => ⟨he, _, insertionSort_holds hO dk x y q2 (by omega), hS⟩
  have HM : Hid (∀ (X Y Z : Int) (x y z : Nat) (dk : Array α) (w1 : World), X = (x : Int) → Y = (y : Int) → Z = (z : Int) → dk.size = n → x < y → y < z → z ≤ n → SortedIn (ltOf cf) x y dk → SortedIn (ltOf cf) y z dk → SWK enc k w blk off dk w1 → Calls Tryz.prog 77 #[.slice (some ⟨blk, off, none⟩) n cap, .int .i64 X, .int .i64 Y, .int .i64 Z, .func (.func g) #[] cb] w1 fun e w' => e = .returned (.tuple #[]) ∧ symL (ltOf cf) x z dk (fun F w' => SWK enc k w blk off F w') w') := fun X Y Z x y z dk w1 e1 e2 e3 q1 q2 q3 q4 q6 q7 q5 => by
    subst e1 e2 e3
    have h := symMerge_any k zE enc cf g cb blk off cap d w eg hcmp R hO (z - x + 1) x y z dk w1 (by omega) (by omega) q5 q2 q3 (by omega) (by omega) q6 q7
    rw [q1] at h
    exact h
  have S0 : Aside (SWK enc k w blk off d w) := SWK.start R.hH
  rw [← hn]
  have hnz : (n : Int) < 1000000000 := by omega
  have HN := Lib.hid hn
  clear hcmp hn hsz
  go_enter Tryz.func59, Tryz.ntmps59
  go_wp2
  go_loopg [7, 8] (n + 1) (fun kx s7 s8 wr => ∃ (a : Nat) (dk : Array α), s7 = .int .i64 a ∧ s8 = .int .i64 ((a : Int) + 20) ∧ a ≤ n ∧ n + 1 - a ≤ kx ∧ dk.size = n ∧ Aside (20 ∣ a) ∧ Aside (DoneB (ltOf cf) 20 a dk) ∧ Aside (PermIn 0 n d dk) ∧ Aside (SWK enc k w blk off dk wr))
  case atStart => exact ⟨0, d, rfl, rfl, Nat.zero_le _, by omega, HN.out.symm, Nat.dvd_zero _, (fun p _ h => by omega), permIn_refl _ _ _, S0⟩
  case round =>
    clear S0
    obtain ⟨a, dk, rfl, rfl, han, hkx, hds, HA, HD, HPm, S1⟩ := hrel
    by_cases hlt : a + 20 ≤ n
    · have hlz : (a : Int) + 20 ≤ (n : Int) := by omega
      go_wp2_with (go_at_call 76; refine (HI.out _ _ a (a + 20) dk _ rfl (by omega) hds (by omega) hlt S1.out).mono ?_; rintro e w2 ⟨rfl, F, hQ, SF⟩)
      go_roundg (n + 1 - (a + 20))
      case measure => omega
      case rel => exact ⟨a + 20, F, by go_num, by go_num, hlt, Nat.le_refl _, hQ.1.1.trans hds, (by have := HA.out; show 20 ∣ a + 20; omega), HD.out.step HA.out rfl hQ, SymQ.perm2 HPm.out hQ hlt (by omega), SF⟩
    · have hlz : ¬ (a : Int) + 20 ≤ (n : Int) := by omega
      go_wp2_with (go_at_call 76; refine (HI.out _ _ a n dk _ rfl rfl hds han (Nat.le_refl _) S1.out).mono ?_; rintro e w2 ⟨rfl, F0, hQ0, SF0⟩)
      have hz0 : F0.size = n := hQ0.1.1.trans hds
      have HT0 : Aside (TodoB (ltOf cf) 20 0 n F0) := TodoB.ofDone HD.out HA.out han (by omega) hQ0
      have HP0 : Aside (PermIn 0 n d F0) := SymQ.perm2 HPm.out hQ0 (Nat.le_refl _) (by omega)
      have S2 : Aside (SWK enc k w blk off F0 w2) := SF0
      clear HD HA HPm S1 hQ0 SF0 hlz hlt hkx hds
      go_loopg [6] n (fun kx s6 wr => ∃ (q : Nat) (d1 : Array α), s6 = .int .i64 (q : Int) ∧ 20 ≤ q ∧ n - q ≤ kx ∧ d1.size = n ∧ Aside (TodoB (ltOf cf) q 0 n d1) ∧ Aside (PermIn 0 n d d1) ∧ Aside (SWK enc k w blk off d1 wr))
      case atStart => exact ⟨20, F0, rfl, Nat.le_refl _, by omega, hz0, HT0, HP0, S2⟩
      case round =>
        clear S2 HT0 HP0 hz0
        obtain ⟨q, d1, rfl, hq20, hkq, hz1, HT1, HP1, S1⟩ := hrel
        by_cases hqn : q < n
        · have hqz : (q : Int) < (n : Int) := by omega
          go_wp2_with fail
          go_simp
          go_loopg [7, 8] (n + 1) (fun kx s7 s8 wr => ∃ (a2 : Nat) (d2 : Array α), s7 = .int .i64 (a2 : Int) ∧ s8 = .int .i64 ((a2 : Int) + 2 * (q : Int)) ∧ a2 ≤ n ∧ n + 1 - a2 ≤ kx ∧ d2.size = n ∧ Aside (2 * q ∣ a2) ∧ Aside (DoneB (ltOf cf) (2 * q) a2 d2) ∧ Aside (TodoB (ltOf cf) q a2 n d2) ∧ Aside (PermIn 0 n d d2) ∧ Aside (SWK enc k w blk off d2 wr))
          case atStart => exact ⟨0, d1, rfl, by go_num, Nat.zero_le _, by omega, hz1, Nat.dvd_zero _, (fun p _ h => by omega), HT1, HP1, S1⟩
          case round =>
            clear S1 HT1 HP1 hz1
            obtain ⟨a2, d2, rfl, rfl, han2, hkx, hz2, HA, HD, HT, HP2, S1⟩ := hrel
            have HAq : Hid (q ∣ a2) := Nat.dvd_trans (Nat.dvd_mul_left q 2) HA.out
            by_cases hlt2 : a2 + 2 * q ≤ n
            · have hlz2 : (a2 : Int) + 2 * (q : Int) ≤ (n : Int) := by omega
              have HB1 : Hid (SortedIn (ltOf cf) a2 (a2 + q) d2) := by
                have := HT.out a2 HAq.out (Nat.le_refl _)
                rwa [Nat.min_eq_left (by omega)] at this
              have HB2 : Hid (SortedIn (ltOf cf) (a2 + q) (a2 + 2 * q) d2) := by
                have := HT.out (a2 + q) (Nat.dvd_add HAq.out (Nat.dvd_refl q)) (by omega)
                rwa [Nat.min_eq_left (by omega), show a2 + q + q = a2 + 2 * q by omega] at this
              go_wp2_with (go_at_call 77; refine (HM.out _ _ _ a2 (a2 + q) (a2 + 2 * q) d2 _ rfl (by omega) (by omega) hz2 (by omega) (by omega) hlt2 HB1.out HB2.out S1.out).mono ?_; rintro e w3 ⟨rfl, F, hQ, SF⟩)
              go_roundg (n + 1 - (a2 + 2 * q))
              case measure => omega
              case rel => exact ⟨a2 + 2 * q, F, by go_num, by go_num, hlt2, Nat.le_refl _, hQ.1.1.trans hz2, Nat.dvd_add HA.out (Nat.dvd_refl _), HD.out.step HA.out rfl hQ, HT.out.step (by omega) hQ, SymQ.perm2 HP2.out hQ hlt2 (by omega), SF⟩
            · have hlz2 : ¬ (a2 : Int) + 2 * (q : Int) ≤ (n : Int) := by omega
              by_cases hm : a2 + q < n
              · have hmz : (a2 : Int) + (q : Int) < (n : Int) := by omega
                have HB1 : Hid (SortedIn (ltOf cf) a2 (a2 + q) d2) := by
                  have := HT.out a2 HAq.out (Nat.le_refl _)
                  rwa [Nat.min_eq_left (by omega)] at this
                have HB2 : Hid (SortedIn (ltOf cf) (a2 + q) n d2) := by
                  have := HT.out (a2 + q) (Nat.dvd_add HAq.out (Nat.dvd_refl q)) (by omega)
                  rwa [Nat.min_eq_right (by omega)] at this
                go_wp2_with (go_at_call 77; refine (HM.out _ _ _ a2 (a2 + q) n d2 _ rfl (by omega) rfl hz2 (by omega) hm (Nat.le_refl _) HB1.out HB2.out S1.out).mono ?_; rintro e w3 ⟨rfl, F, hQ, SF⟩)
                go_roundg (n - 2 * q)
                case measure => omega
                case rel => exact ⟨2 * q, F, by go_num, by omega, Nat.le_refl _, hQ.1.1.trans hz2, TodoB.ofDone HD.out HA.out han2 (by omega) hQ, SymQ.perm2 HP2.out hQ (Nat.le_refl _) (by omega), SF⟩
              · have hmz : ¬ (a2 : Int) + (q : Int) < (n : Int) := by omega
                have HB1 : Hid (SymQ (ltOf cf) a2 n d2 d2) := by
                  have := HT.out a2 HAq.out (Nat.le_refl _)
                  rw [Nat.min_eq_right (by omega)] at this
                  exact ⟨permIn_refl _ _ _, this⟩
                go_wp2_with fail
                go_roundg (n - 2 * q)
                case measure => omega
                case rel => exact ⟨2 * q, d2, by go_num, by omega, Nat.le_refl _, hz2, TodoB.ofDone HD.out HA.out han2 (by omega) HB1.out, HP2, S1⟩
        · have hqz : ¬ (q : Int) < (n : Int) := by omega
          go_wp2_with fail
          go_end0
          exact ⟨rfl, d1, ⟨HP1.out, HT1.out.all (by omega)⟩, S1.out⟩
set_option maxHeartbeats 8000000 in
set_option maxRecDepth 1000000 in
theorem sortStable_any (k : Nat) (zE : ∀ w, (Go.sizeOf 44).run Tryz.prog w = .ok k w) (enc : α → List Value) (cf : α → α → Int) (g : Nat) (cb : Array Value) (blk off cap : Nat) (d : Array α) (w : World)
    (eg : ∀ args w, (callFunc g args).run Tryz.prog w = .ok (.enter g args) w) (hcmp : CmpLays Tryz.prog g cb enc k cf blk off d.size w) (R : RowK enc k w blk off d) (hO : SWO (ltOf cf)) (hsz : d.size < 1000000000) :
    Calls Tryz.prog 26 #[.slice (some ⟨blk, off, none⟩) d.size cap, .func (.func g) #[] cb] w fun e w' => e = .returned (.tuple #[]) ∧ symL (ltOf cf) 0 d.size d (fun F w' => SWK enc k w blk off F w') w' := by
  have HS := Lib.hid (stable_any k zE enc cf g cb blk off cap d w eg hcmp R hO hsz)
  clear hcmp R hO
  go_enter Tryz.func26, Tryz.ntmps26
  go_wp2_with (go_at_call 59; refine HS.out.mono ?_; rintro e w2 ⟨rfl, hF⟩)
  go_end0
  exact ⟨rfl, hF⟩
end Go.Proofs.YteckblffpidigaaGreatDoor
