/- The walk of hmac.padded: a key's block. No condition. -/
import Derived.Test.YtficbedibjgoeaaDoorRepeat
import Derived.Test.YtficbedibjgoeaaDoorAppZ
import Derived.Test.YtficbedibjgoeaaDoorClone
import Derived.Test.YtficbedibjgoeaaDoorMade
import Derived.Test.YtficbedibjgoeaaDoorLists
namespace Go.Proofs.YtficbedibjgoeaaDoor
open Go.RowKit
theorem own_down {w : World} {b b' : Nat} {e : TypeId} {size n : Nat} {v : Value} {xs : List Value} (h : w.ownsRow b e size v n xs) (hb : b' ≤ b) : w.ownsRow b' e size v n xs := by
  rcases h with ⟨h1, h2 | ⟨g, cap, cur, e1, e2, e3⟩⟩
  · exact ⟨h1, .inl h2⟩
  · exact ⟨h1, .inr ⟨g, cap, cur, e1, by omega, e3⟩⟩
theorem mixL_rep (l : List UInt8) (x : UInt8) : ∀ {n : Nat}, l.length = n → mixL l (List.replicate n x) = l.map (· ^^^ x) := by
  induction l with
  | nil => intro n hn; simp [mixL]
  | cons a l ih =>
    intro n hn
    obtain ⟨k, rfl⟩ : ∃ k, n = k + 1 := ⟨l.length, by simpa using hn.symm⟩
    have := ih (n := k) (by simpa using hn)
    simp only [mixL] at this
    simp [mixL, List.replicate_succ, this]
set_option maxRecDepth 100000 in
set_option maxHeartbeats 4000000 in
theorem padded_any (A : Option Addr) (n c : Nat) (K : List UInt8) (x : UInt8) (hn : n ≤ 1000000) (hnc : n ≤ c) (w : World) (hr : Rd w A n (u8s K)) (hA : A = none → n = 0 ∧ c = 0) (gw : Glob w) :
    Calls Tryd.prog 25 #[.slice A n c, .int .u8 (x.toNat : Int)] w fun e w' => ∃ v, e = .returned v ∧ w'.ownsRow w.heap.size 5 1 v 64 (u8s (padL K x)) ∧ Below w.heap.size w w' := by
  obtain ⟨i0, hi0, hz0, hz1, hz2⟩ := info_parts Tryd.info5
  have hKl : K.length = n := by simpa using hr.1
  by_cases h64 : 64 < n
  · have HP : Hid (padL K x = mixL (shaL K ++ List.replicate (64 - 32) 0) (List.replicate 64 x)) := by
      show _ = _
      rw [mixL_rep _ _ (by simp), padL, show keyL K = shaL K by rw [keyL, if_pos (by omega)], shaL_length]
    obtain ⟨D, hD⟩ : ∃ D, D = shaL K := ⟨_, rfl⟩
    have hDl : D.length = 32 := by rw [hD]; simp
    rw [← hD] at HP
    have HS : Hid (∀ w A n c ps, n ≤ 100 → Parts w A n ps → allP ps = K → Glob w → Calls Tryd.prog 24 #[.slice A n c] w fun e w' => e = .returned (.agg (u8s D).toArray) ∧ Below w.heap.size w w') := by
      intro w A n c ps hn' hp hl hg
      rw [hD]
      exact shaSum_any A n c ps (by omega) K hl (by omega) w hp hg
    clear hD
    go_enter Tryd.func25, Tryd.ntmps25
    go_upto_region 4 with first
      | (go_at_call 24; refine (HS.out _ _ 1 1 [⟨A, n, c, K⟩] (by omega) (parts1 rfl _ ⟨A, n, c, K⟩ hr hnc) (by simp [allP]) (gw.gr (Gr.alloc _ _))).mono ?_; rintro e w1 ⟨rfl, hB1⟩)
      | (refine wpList_new rfl 22 (.tmp 5) (.tmp 12) rfl _ (u8s D) rfl rfl rfl (by simp only [u8s_length, hDl]; rfl) (infoU8_32 D hDl) (u8s_oneCell _) ?_; intro w5 h5 hG5)
    have hB0 : Below w.heap.size w w1 := ((Below.refl _ _).alloc (Nat.le_refl _) _).trans (hB1.mono (by simp only [asz]; omega))
    have hB5 := hB0.trans (hG5.mono hB0.size)
    generalize w1.heap.size = g at h5 ⊢
    have hr5 := Arr.rdAllS h5 hDl
    clear hB0 hB1 hG5 h5 hr hA HS
    have HK6 : Hid ((64 : Int) - (32 : Int) = ((64 - 32 : Nat) : Int)) := by show _ = _; omega
    have HM : Hid (∀ B v w, World.ownsRow w B 5 1 v (32 + (64 - 32)) (u8s (D ++ List.replicate (64 - 32) 0)) → ∃ A c, v = .slice A 64 c ∧ Rd w A 64 (u8s (D ++ List.replicate (64 - 32) 0))) := by
      intro B v w ho
      have e : 32 + (64 - 32) = 64 := by omega
      rw [e] at ho
      obtain ⟨A, c, rfl, _, _⟩ := own_form ho
      exact ⟨A, c, rfl, Rd.of_own ho⟩
    have hclone := clone_any (some ⟨g, 0, none⟩) 32 32 D (by omega) w5 hr5 (by simp)
    go_wp2_with first
      | (go_at_call 32; refine hclone.mono ?_; rintro e wc ⟨vc, rfl, hoc, hBc⟩)
      | (at_builtin; go_must (refine wpList_appZ _ rfl (.tmp 15) (.tmp 18) 23 3 rfl w5.heap.size 5 i0 Tryd.underlying23 Tryd.underlying3 hi0 hz0 hz1 hz2 vc 32 D rfl hoc (64 - 32) (congrArg (Value.int .i64) HK6.out) (by omega) hBc.size ?_))
    intro vz wz hoz hgz
    obtain ⟨Az, cz, rfl, hrz⟩ := HM.out _ vz wz hoz
    have hBz : Below w5.heap.size w5 wz := hBc.grown hgz hBc.size (fun k hk => (hoc.lt k hk).1)
    have hB9 := hB5.trans (hBz.mono hB5.size)
    clear hoz hgz hoc hBc hBz HK6 HM hclone
    go_simp
    go_wp2_with fail
    go_at_call 34
    refine (repeat_any _ 1 x _ (rd_made rfl _ _ _ 1 _ rfl rfl)).mono ?_
    rintro e wy ⟨gy, rfl, hry, hBy⟩
    have hrz2 := ((Gr.alloc _ _).rd hrz).below hBy
    have hBy2 := hB9.trans ((((Below.refl _ _).alloc (Nat.le_refl _) _).trans (hBy.mono (by simp only [asz]; omega))).mono hB9.size)
    go_wp2_with (go_at_call 33; refine (mix_any _ _ _ _ _ _ _ _ (by omega) _ hrz2 hry).mono ?_; rintro e wx ⟨vx, rfl, hox, hBx⟩)
    go_ret
    rw [HP.out]
    exact ⟨_, rfl, own_down (by simpa using hox) hBy2.size, hBy2.trans (hBx.mono hBy2.size)⟩
  · have HP : Hid (padL K x = mixL (K ++ List.replicate (64 - n) 0) (List.replicate 64 x)) := by
      show _ = _
      rw [mixL_rep _ _ (by simp; omega), padL, show keyL K = K by rw [keyL, if_neg (by omega)], hKl]
    have hB0 := Below.refl w.heap.size w
    go_enter Tryd.func25, Tryd.ntmps25
    have HK6 : Hid ((64 : Int) - (n : Int) = ((64 - n : Nat) : Int)) := by show _ = _; omega
    have HM : Hid (∀ B v w, World.ownsRow w B 5 1 v (n + (64 - n)) (u8s (K ++ List.replicate (64 - n) 0)) → ∃ A c, v = .slice A 64 c ∧ Rd w A 64 (u8s (K ++ List.replicate (64 - n) 0))) := by
      intro B v w ho
      have e : n + (64 - n) = 64 := by omega
      rw [e] at ho
      obtain ⟨A, c, rfl, _, _⟩ := own_form ho
      exact ⟨A, c, rfl, Rd.of_own ho⟩
    have hclone := clone_any A n c K (by omega) w hr hA
    go_wp2_with first
      | (go_at_call 32; refine hclone.mono ?_; rintro e wc ⟨vc, rfl, hoc, hBc⟩)
      | (at_builtin; go_must (refine wpList_appZ _ rfl (.tmp 15) (.tmp 18) 23 3 rfl w.heap.size 5 i0 Tryd.underlying23 Tryd.underlying3 hi0 hz0 hz1 hz2 vc n K rfl hoc (64 - n) (congrArg (Value.int .i64) HK6.out) (by omega) hBc.size ?_))
    intro vz wz hoz hgz
    obtain ⟨Az, cz, rfl, hrz⟩ := HM.out _ vz wz hoz
    have hBz : Below w.heap.size w wz := hBc.grown hgz hBc.size (fun k hk => (hoc.lt k hk).1)
    have hB9 := hB0.trans (hBz.mono hB0.size)
    clear hoz hgz hoc hBc hBz HK6 HM hclone
    go_simp
    go_wp2_with fail
    go_at_call 34
    refine (repeat_any _ 1 x _ (rd_made rfl _ _ _ 1 _ rfl rfl)).mono ?_
    rintro e wy ⟨gy, rfl, hry, hBy⟩
    have hrz2 := ((Gr.alloc _ _).rd hrz).below hBy
    have hBy2 := hB9.trans ((((Below.refl _ _).alloc (Nat.le_refl _) _).trans (hBy.mono (by simp only [asz]; omega))).mono hB9.size)
    go_wp2_with (go_at_call 33; refine (mix_any _ _ _ _ _ _ _ _ (by omega) _ hrz2 hry).mono ?_; rintro e wx ⟨vx, rfl, hox, hBx⟩)
    go_ret
    rw [HP.out]
    exact ⟨_, rfl, own_down (by simpa using hox) hBy2.size, hBy2.trans (hBx.mono hBy2.size)⟩
end Go.Proofs.YtficbedibjgoeaaDoor
