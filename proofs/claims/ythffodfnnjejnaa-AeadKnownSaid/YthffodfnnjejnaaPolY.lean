/- The walk of the document's Tag. No condition. -/
import Derived.Test.YthffodfnnjejnaaPolX
import Derived.Test.YthffodfnnjejnaaPolTag
import Derived.Test.YthffodfnnjejnaaMem
import Derived.Test.YthffodfnnjejnaaIdx
import Derived.Test.YthffodfnnjejnaaKitA
namespace Go.Proofs.Ythffodfnnjejnaa
open Go.RowKit
/-- The digits of r, so many of them laid. -/
def rcL (K : List UInt8) (k : Nat) : List Nat := ((rL K).take k).map UInt8.toNat ++ List.replicate (34 - k) 0
theorem rL_length {K : List UInt8} (hK : K.length = 32) : (rL K).length = 16 := by simp [rL, maskR, hK]
theorem rcL_length {K : List UInt8} (hK : K.length = 32) (k : Nat) (hk : k ≤ 16) : (rcL K k).length = 34 := by simp [rcL, rL_length hK]; omega
theorem rcL_set {K : List UInt8} (hK : K.length = 32) (k x : Nat) (hk : k < 16) (hx : x = ((rL K).getD k 0).toNat) : (rcL K k).set k x = rcL K (k + 1) := by
  have hl := rL_length hK
  have e1 : (rL K).take (k + 1) = (rL K).take k ++ [(rL K).getD k 0] := take_snoc_ _ k _ (by rw [List.getD_eq_getElem?_getD, List.getElem?_eq_getElem (by omega)]; rfl)
  unfold rcL
  rw [e1, List.map_append, List.append_assoc, List.set_append_right _ _ (by simp; omega), hx]
  congr 1
  rw [List.length_map, List.length_take, hl, Nat.min_eq_left (by omega), Nat.sub_self, show 34 - k = (34 - (k + 1)) + 1 by omega, List.replicate_succ]
  rfl
theorem and_mask : ∀ n : Fin 256, (UInt8.ofNat n.val &&& 255).toNat = n.val ∧ (UInt8.ofNat n.val &&& 15).toNat = n.val % 16 ∧ (UInt8.ofNat n.val &&& 252).toNat = n.val - n.val % 4 := by decide +kernel
theorem and_mask' (d : UInt8) : (d &&& 255).toNat = d.toNat ∧ (d &&& 15).toNat = d.toNat % 16 ∧ (d &&& 252).toNat = d.toNat - d.toNat % 4 := by
  have := and_mask ⟨d.toNat, d.toNat_lt⟩
  simpa using this
theorem rL_at {K : List UInt8} {k : Nat} (hk : k < 16) {d : UInt8} (hd : K[k]? = some d) : (rL K).getD k 0 = d &&& maskR.getD k 0 := by
  obtain ⟨m, hm⟩ : ∃ m, maskR[k]? = some m := ⟨_, List.getElem?_eq_getElem (by simpa [maskR] using hk)⟩
  rw [rL, List.getD_eq_getElem?_getD, List.getD_eq_getElem?_getD, List.getElem?_zipWith, List.getElem?_take, if_pos hk, hd, hm]
  rfl
theorem mask_at : ∀ k : Fin 16, maskR.getD k.val 0 = if k.val % 4 = 3 then 15 else if 0 < k.val ∧ k.val % 4 = 0 then 252 else 255 := by decide +kernel
theorem rL_mask {K : List UInt8} {k : Nat} (hk : k < 16) {d : UInt8} (hd : K[k]? = some d) : ((rL K).getD k 0).toNat = if k % 4 = 3 then d.toNat % 16 else if 0 < k ∧ k % 4 = 0 then d.toNat - d.toNat % 4 else d.toNat := by
  have h := mask_at ⟨k, hk⟩
  simp only at h
  rw [rL_at hk hd, h]
  split
  · exact (and_mask' d).2.1
  · split
    · exact (and_mask' d).2.2
    · exact (and_mask' d).1
theorem val256_toNat (l : List UInt8) : val256 (l.map UInt8.toNat) = leNat l := by
  induction l with
  | nil => rfl
  | cons c r ih => rw [List.map_cons, val256, leNat, ih]
theorem toNat_get256 (l : List UInt8) (i : Nat) : (l.map UInt8.toNat).getD i 0 < 256 := by
  rw [List.getD_eq_getElem?_getD, List.getElem?_map]
  cases l[i]? with
  | none => simp
  | some c => exact c.toNat_lt
theorem toNat_getD {l : List UInt8} {i : Nat} {d : UInt8} (h : l[i]? = some d) : (l.map UInt8.toNat).getD i 0 = d.toNat := by
  rw [List.getD_eq_getElem?_getD, List.getElem?_map, h]; rfl
theorem ad1_set (l h : List Nat) (k x : Nat) (hx : x = (adAt l h 1 0 k).getD k 0 + h.getD k 0) : (adAt l h 1 0 k).set k x = adAt l h 1 0 (k + 1) := by
  subst hx
  rw [adAt, Nat.zero_add, Nat.one_mul]
theorem ad1_le {l h : List Nat} (hl : ∀ i, l.getD i 0 < 256) (hh : ∀ i, h.getD i 0 < 256) (k j : Nat) : (adAt l h 1 0 k).getD j 0 ≤ 510 := by
  have h1 := adAt_le l h 1 0 255 (fun k => by have := hh k; omega) k j
  have h2 := hl j
  omega
theorem rep_dig : List.replicate 34 0 = dig 34 0 := by decide +kernel
theorem run_cutB {P : Program} {T : TypeId} (hT : P.underlying T = some .string) (t u : ByteArray) (l : List UInt8) (k : Nat) (ht : t = ⟨l.toArray⟩) (hk : k ≤ l.length) (hu : u = ⟨(l.drop k).toArray⟩) (w : World) :
    (Instr.slice T (.string t) (some (.int .i64 (k : Int))) none none).run P w = .ok (.string u) w := by
  subst ht hu
  exact run_cutS_l hT l k k rfl hk w
theorem drop_next {b : List UInt8} {n r m k : Nat} (hn : n = b.length) (hm : m = n - 16 * r) (hk : k = min m 16) : (b.drop (16 * r)).drop k = b.drop (16 * (r + 1)) := by
  rw [List.drop_drop]
  rcases Nat.lt_or_ge m 16 with h | h
  · rw [List.drop_of_length_le (by omega), List.drop_of_length_le (by omega)]
  · congr 1; omega
theorem pr_le {h r : List Nat} (hh : ∀ i, h.getD i 0 < 256) (hr : ∀ i, r.getD i 0 < 256) (i k : Nat) : h.getD i 0 * r.getD k 0 ≤ 65025 := by
  have h1 := hh i
  have h2 := hr k
  exact Nat.le_trans (Nat.mul_le_mul (show _ ≤ 255 by omega) (show _ ≤ 255 by omega)) (by omega)
theorem X_le {h r : List Nat} (hh : ∀ i, h.getD i 0 < 256) (hr : ∀ i, r.getD i 0 < 256) (i j : Nat) : (prAt (List.replicate 34 0) h r i).getD j 0 ≤ i * 65025 := by
  have h1 := prAt_le (List.replicate 34 0) h r 65025 (pr_le hh hr) i j
  have h2 : (List.replicate 34 0).getD j 0 = 0 := by
    rw [List.getD_eq_getElem?_getD, List.getElem?_replicate]; split <;> rfl
  omega
theorem Y_le {h r : List Nat} (hh : ∀ i, h.getD i 0 < 256) (hr : ∀ i, r.getD i 0 < 256) (i k j : Nat) (hi : i < 17) : (adAt (prAt (List.replicate 34 0) h r i) r (h.getD i 0) i k).getD j 0 ≤ 2000000 := by
  have h1 := adAt_le (prAt (List.replicate 34 0) h r i) r (h.getD i 0) i 65025 (fun k => pr_le hh hr i k) k j
  have h2 := X_le hh hr i j
  have h3 : i * 65025 ≤ 16 * 65025 := Nat.mul_le_mul_right _ (by omega)
  omega
theorem rcL_val {K : List UInt8} (hK : K.length = 32) : val256 ((rcL K 16).take 17) = leNat (rL K) := by
  have hl := rL_length hK
  have e : (rcL K 16).take 17 = (rL K).map UInt8.toNat ++ [0] := by
    rw [rcL, List.take_of_length_le (l := rL K) (by omega), List.take_append, List.take_of_length_le (l := (rL K).map UInt8.toNat) (by simp [hl])]
    simp [hl]
  rw [e, val256_snoc, val256_toNat]
  omega
theorem rcL_get256 {K : List UInt8} (i : Nat) : (rcL K 16).getD i 0 < 256 := by
  rw [rcL, List.getD_eq_getElem?_getD, List.getElem?_append]
  split
  · have := toNat_get256 ((rL K).take 16) i
    rwa [List.getD_eq_getElem?_getD] at this
  · rw [List.getElem?_replicate]
    split <;> simp
theorem pH_lt (r : Nat) (b : List UInt8) (k : Nat) : pH r b k < P130 := by
  cases k with
  | zero => show 0 < P130; decide +kernel
  | succ k => exact Nat.mod_lt _ (by decide +kernel)
theorem round_val {v k : Nat} {p : List UInt8} (hv : v < P130) (hp : p.length = k) (hk : k ≤ 16) :
    (adAt (dig 34 v) (p.map UInt8.toNat) 1 0 k).length = 34 ∧ val256 ((adAt (dig 34 v) (p.map UInt8.toNat) 1 0 k).set k ((adAt (dig 34 v) (p.map UInt8.toNat) 1 0 k).getD k 0 + 1)) = v + (leNat p + 256 ^ k) ∧ v + (leNat p + 256 ^ k) < 256 ^ 17 := by
  have hl : (adAt (dig 34 v) (p.map UInt8.toNat) 1 0 k).length = 34 := by simp
  have h1 := adAt_val (dig 34 v) (p.map UInt8.toNat) 1 0 k (by simp; omega)
  simp only [Nat.pow_zero, Nat.one_mul] at h1
  rw [val256_dig, List.take_of_length_le (by simp; omega), val256_toNat] at h1
  have hP : P130 = 1361129467683753853853498429727072845819 := by decide +kernel
  have hv34 : v % 256 ^ 34 = v := Nat.mod_eq_of_lt (by rw [pow34]; omega)
  rw [hv34] at h1
  have h2 := val256_set (l := adAt (dig 34 v) (p.map UInt8.toNat) 1 0 k) (i := k) ((adAt (dig 34 v) (p.map UInt8.toNat) 1 0 k).getD k 0 + 1) (by omega)
  rw [Nat.mul_add, Nat.mul_one] at h2
  refine ⟨hl, by omega, ?_⟩
  have h3 := leNat_lt p
  rw [hp] at h3
  have h4 : 256 ^ k ≤ 256 ^ 16 := Nat.pow_le_pow_right (by omega) hk
  rw [pow16] at h4
  rw [pow17]
  omega
theorem prod_val {v : Nat} {rr : List Nat} {R : Nat} (hv : v < 256 ^ 17) (hr : val256 (rr.take 17) = R) : val256 (prAt (List.replicate 34 0) (dig 34 v) rr 17) = v * R := by
  have h0 : val256 (List.replicate 34 0) = 0 := by decide +kernel
  have h1 := prAt_val (List.replicate 34 0) (dig 34 v) rr 17 (by simp)
  have e : (dig 34 v).take 17 = dig 17 v := by
    rw [dig_pad 17 17 v hv, List.take_append_of_le_length (by simp), List.take_of_length_le (by simp)]
  rw [h0, hr, e, val256_dig, Nat.mod_eq_of_lt hv, Nat.zero_add] at h1
  exact h1
def strLen : Value → Nat
  | .string s => s.size
  | _ => 0
set_option maxRecDepth 100000 in
set_option maxHeartbeats 8000000 in
theorem refTag_any (K : List UInt8) (hK : K.length = 32) (b : List UInt8) (hb : b.length ≤ 1000000) (w : World) :
    Calls Try.prog 25 #[.string ⟨K.toArray⟩, .string ⟨b.toArray⟩] w fun e w' => e = .returned (.string ⟨(tagL K b).toArray⟩) ∧ Below w.heap.size w w' := by
  obtain ⟨i0, hi0, hz0, hz1, hz2⟩ := info_parts Try.info5
  obtain ⟨s, hs⟩ : ∃ s : ByteArray, s = ⟨K.toArray⟩ := ⟨_, rfl⟩
  have hsl : s.size = 32 := by rw [hs]; exact hK
  have hs0 : s.size = s.size := rfl
  rw [← hs]
  have HS := Lib.hid hs
  have HSL := Lib.hid hsl
  have hsz1 : s.size ≤ 32 := by omega
  have hsz2 : 32 ≤ s.size := by omega
  clear hs hsl hs0
  go_enter Try.func25, Try.ntmps25
  go_wp2_with fail
  have hM : Mem w.heap.size w ((w.alloc (.cells (List.replicate 34 (.int .i64 0)).toArray 73)).alloc (.cells (List.replicate 34 (.int .i64 0)).toArray 73)) [(w.heap.size + 1, 73, i64s (List.replicate 34 0)), (w.heap.size, 73, i64s (rcL K 0))] := by
    have h := ((Mem.nil w).new (t := 73) (C := (List.replicate 34 (.int .i64 0)).toArray) (cs := i64s (rcL K 0)) (Nat.le_refl _) rfl).new (t := 73) (C := (List.replicate 34 (.int .i64 0)).toArray) (cs := i64s (List.replicate 34 0)) (Nat.le_refl _) rfl
    rw [asz] at h
    exact h
  obtain ⟨g5, hg5⟩ : ∃ g, g = w.heap.size := ⟨_, rfl⟩
  obtain ⟨g6, hg6⟩ : ∃ g, g = w.heap.size + 1 := ⟨_, rfl⟩
  have hB0 : g5 ≤ w.heap.size := by omega
  rw [← hg6, ← hg5] at hM
  simp only [← hg6]
  simp only [← hg5]
  have HG := Lib.hid hg5
  clear hg5 hg6
  go_loopw [7] (fun i wr => ∃ r : Nat, r ≤ 16 ∧ i = .int .i64 r ∧ Mem g5 w wr [(g6, 73, i64s (List.replicate 34 0)), (g5, 73, i64s (rcL K r))]) (fun i _ => 16 - (intOf i).toNat)
  case atStart => exact ⟨0, by omega, rfl, hM⟩
  case round =>
    clear hM
    obtain ⟨r, hr, rfl, hM⟩ := hrel
    by_cases hlt : r < 16
    · obtain ⟨d, hd⟩ : ∃ x, s[r] = x := ⟨_, rfl⟩
      have hdk : K[r]? = some d := by rw [← hd]; exact str_at HS.out (by omega)
      have hm := rL_mask hlt hdk
      have hd1 := d.toNat_lt
      have c5 := (hM.at_ 1 rfl).i64 (a := r) (by rw [rcL_length hK r hr]; omega)
      have f5 := (hM.at_ 1 rfl).frozen r
      obtain ⟨x, hx⟩ : ∃ x, x = ((rL K).getD r 0).toNat := ⟨_, rfl⟩
      have hM' := hM.set 1 rfl r (.int .i64 (x : Int))
      rw [i64s_set, rcL_set hK r x hlt hx] at hM'
      simp only [List.set] at hM'
      rw [← hx] at hm
      clear hdk hx
      by_cases h3 : r % 4 = 3
      · rw [if_pos h3] at hm
        have HM := Lib.hid hm
        clear hm
        have b1 : ((r : Int) % 4 == 3) = true := by rw [beq_iff_eq]; omega
        have b2 : ((r : Int) % 4 == 0) = false := by rw [beq_eq_false_iff_ne]; omega
        have b3 : 0 < r := by omega
        go_wp2_with fail
        rw [show (x : Int) = (d.toNat : Int) % 16 by rw [HM.out]; omega] at hM'
        exact ⟨⟨r + 1, by omega, by go_num, hM'⟩, by simp [intOf]; omega⟩
      · rw [if_neg h3] at hm
        have b1 : ((r : Int) % 4 == 3) = false := by rw [beq_eq_false_iff_ne]; omega
        by_cases h4 : 0 < r ∧ r % 4 = 0
        · rw [if_pos h4] at hm
          have HM := Lib.hid hm
          clear hm
          obtain ⟨b3, h4⟩ := h4
          have b2 : ((r : Int) % 4 == 0) = true := by rw [beq_iff_eq]; omega
          clear h4
          go_wp2_with fail
          rw [show (x : Int) = (d.toNat : Int) - (d.toNat : Int) % 4 by rw [HM.out]; omega] at hM'
          exact ⟨⟨r + 1, by omega, by go_num, hM'⟩, by simp [intOf]; omega⟩
        · rw [if_neg h4] at hm
          have HM := Lib.hid hm
          clear hm
          rcases Nat.eq_zero_or_pos r with h0 | h0
          · subst h0
            simp only [show ((0 : Nat) : Int) = 0 from rfl]
            go_wp2_with fail
            rw [show (x : Int) = (d.toNat : Int) by rw [HM.out]] at hM'
            exact ⟨⟨1, by omega, rfl, hM'⟩, by simp [intOf]⟩
          · have b2 : ((r : Int) % 4 == 0) = false := by rw [beq_eq_false_iff_ne]; omega
            clear h4
            go_wp2_with fail
            rw [show (x : Int) = (d.toNat : Int) by rw [HM.out]] at hM'
            exact ⟨⟨r + 1, by omega, by go_num, hM'⟩, by simp [intOf]; omega⟩
    · obtain rfl : r = 16 := by omega
      simp only [show ((16 : Nat) : Int) = 16 from rfl]
      go_wp2_with fail
      obtain ⟨rr, hrr⟩ : ∃ rr, rr = rcL K 16 := ⟨_, rfl⟩
      obtain ⟨R, hR⟩ : ∃ R, R = leNat (rL K) := ⟨_, rfl⟩
      have hrrl : rr.length = 34 := by rw [hrr]; exact rcL_length hK 16 (by omega)
      have hrr256 : ∀ i, rr.getD i 0 < 256 := by rw [hrr]; exact rcL_get256
      have hrrv : val256 (rr.take 17) = R := by rw [hrr, hR]; exact rcL_val hK
      obtain ⟨F, hF⟩ : ∃ F : Nat → List Nat, F = fun r => dig 34 (pH R b r) := ⟨_, rfl⟩
      obtain ⟨S, hS⟩ : ∃ S : Nat → ByteArray, S = fun r => ⟨(b.drop (16 * r)).toArray⟩ := ⟨_, rfl⟩
      have HF : Hid (∀ r, F r = dig 34 (pH R b r)) := by intro r; rw [hF]
      have HSt : Hid (∀ r, S r = ⟨(b.drop (16 * r)).toArray⟩) := by intro r; rw [hS]
      have HR := Lib.hid hR
      have HRV := Lib.hid hrrv
      have H256 := Lib.hid hrr256
      rw [← hrr, show i64s (List.replicate 34 0) = i64s (F 0) by rw [HF.out, rep_dig]; rfl] at hM
      have hS0 : (⟨b.toArray⟩ : ByteArray) = S 0 := by rw [hS]; rfl
      rw [hS0]
      obtain ⟨n, hn⟩ : ∃ n, n = b.length := ⟨_, rfl⟩
      have hSl : ∀ r, (S r).size = n - 16 * r := by intro r; rw [hS, hn]; show (b.drop _).length = _; simp
      have HSl := Lib.hid hSl
      have HN := Lib.hid hn
      rw [← hn] at hb
      clear hrr hR hF hS hS0 hrrv hrr256 hSl hn hlt
      go_loopw [1] (fun sv wr => ∃ r : Nat, 16 * r ≤ n + 15 ∧ sv = .string (S r) ∧ Mem g5 w wr [(g6, 73, i64s (F r)), (g5, 73, i64s rr)]) (fun sv _ => strLen sv)
      case atStart => exact ⟨0, by omega, rfl, hM⟩
      case round =>
        clear hM
        obtain ⟨r, hr, rfl, hM⟩ := hrel
        obtain ⟨t, ht⟩ : ∃ t, t = S r := ⟨_, rfl⟩
        have htl : t.size = n - 16 * r := by rw [ht]; exact HSl.out r
        obtain ⟨m, hm⟩ : ∃ m, m = n - 16 * r := ⟨_, rfl⟩
        rw [← hm] at htl
        rw [← ht]
        by_cases hlt : 16 * r < n
        · have hm0 : 0 < m := by omega
          obtain ⟨k, hk⟩ : ∃ k, k = min m 16 := ⟨_, rfl⟩
          have hkm : min (t.size : Int) 16 = (k : Int) := by omega
          have hk16 : k ≤ 16 := by omega
          have hkle : k ≤ t.size := by omega
          have ht0 : 0 < t.size := by omega
          have htb : t.size ≤ 1000000 := by omega
          have HT := Lib.hid ht
          have HTL := Lib.hid htl
          have HKM := Lib.hid hk
          have HM := Lib.hid hm
          obtain ⟨v, hv⟩ : ∃ v, v = pH R b r := ⟨_, rfl⟩
          have hvl : v < P130 := by rw [hv]; exact pH_lt _ _ _
          rw [HF.out r, ← hv] at hM
          have HV := Lib.hid hv
          have HVL := Lib.hid hvl
          clear ht htl hk hm hv hvl
          go_wp2_with fail
          obtain ⟨p, hp⟩ : ∃ p, p = blk b r := ⟨_, rfl⟩
          have hpl : p.length = k := by
            have e1 := HKM.out
            have e2 := HM.out
            have e3 := HTL.out
            have e4 := HN.out
            rw [hp, blk, List.length_take, List.length_drop, ← e4]
            omega
          have hrv := round_val HVL.out hpl hk16
          obtain ⟨q, hq⟩ : ∃ q, q = p.map UInt8.toNat := ⟨_, rfl⟩
          rw [← hq] at hrv
          obtain ⟨A, hA⟩ : ∃ A : Nat → List Nat, A = fun j => adAt (dig 34 v) q 1 0 j := ⟨_, rfl⟩
          have hAl : ∀ j, (A j).length = 34 := by intro j; rw [hA]; simp
          have hAle : ∀ j i, (A j).getD i 0 ≤ 510 := by intro j i; rw [hA]; exact ad1_le (dig_get256 34 v) (by rw [hq]; exact toNat_get256 p) j i
          have hAset : ∀ j x, x = (A j).getD j 0 + q.getD j 0 → (A j).set j x = A (j + 1) := by rw [hA]; intro j x hx; exact ad1_set _ _ _ _ hx
          have hA0 : dig 34 v = A 0 := by rw [hA]; rfl
          have hqd : ∀ j d, j < k → t.data.toList[j]? = some d → q.getD j 0 = d.toNat := by
            intro j d hj hd
            rw [hq]
            refine toNat_getD ?_
            rw [hp, blk, List.getElem?_take, if_pos (by omega)]
            have e5 := HSt.out r
            rw [← HT.out] at e5
            rw [e5] at hd
            simpa using hd
          have hAe : val256 ((A k).set k ((A k).getD k 0 + 1)) = v + (leNat p + 256 ^ k) ∧ v + (leNat p + 256 ^ k) < 256 ^ 17 := by rw [hA]; exact hrv.2
          rw [hA0] at hM
          have HQD := Lib.hid hqd
          have HAL := Lib.hid hAl
          have HALE := Lib.hid hAle
          have HASET := Lib.hid hAset
          have HAE := Lib.hid hAe
          have HP := Lib.hid hp
          have HPL := Lib.hid hpl
          clear hp hpl hrv hq hA hAl hAle hAset hA0 hqd hAe
          go_loopw [10] (fun i wr => ∃ j : Nat, j ≤ k ∧ i = .int .i64 j ∧ Mem g5 w wr [(g6, 73, i64s (A j)), (g5, 73, i64s rr)]) (fun i _ => k - (intOf i).toNat)
          case atStart => exact ⟨0, by omega, rfl, hM⟩
          case round =>
            clear hM
            obtain ⟨j, hj, rfl, hM⟩ := hrel
            by_cases hlj : j < k
            · obtain ⟨d, hd⟩ : ∃ x, t[j] = x := ⟨_, rfl⟩
              have hjt : j < t.size := by omega
              have hqj := HQD.out j d hlj (by rw [← hd]; simp [ByteArray.getElem_eq_getElem_data, hjt])
              have hd1 := d.toNat_lt
              obtain ⟨x, hx⟩ : ∃ x, x = (A j).getD j 0 := ⟨_, rfl⟩
              have hxl : x ≤ 510 := by rw [hx]; exact HALE.out j j
              have c6 := (hM.at_ 0 rfl).i64 (a := j) (by rw [HAL.out]; omega)
              rw [← hx] at c6
              have hAs := HASET.out j (x + d.toNat) (by rw [hx, hqj])
              have HAS := Lib.hid hAs
              clear hqj hx hAs
              go_wp2_with fail
              refine wp_region_st (by kernel_rfl) [IsV (.int .i64 (j : Nat)), IsV (.int .i64 (j : Nat)), IsV (.pointer (some ⟨g6, j, none⟩)), IsV (.int .i64 (x : Nat)), IsV (.string t), IsV (.int .i64 (j : Nat)), IsV (.int .u8 (d).toNat), IsV (.int .i64 ((d).toNat : Nat)), IsV (.int .i64 ((x + (d).toNat) : Nat)), IsV (.pointer (some ⟨g6, j, none⟩))] 10 _ rfl rfl rfl (by kernel_rfl) (by kernel_rfl) ?_ (⟨g6, j, none⟩ : Addr) (.int .i64 ((x + (d).toNat) : Nat)) ?_ ?_ ?_
              · intro φ hφ
                simp only [List.mem_cons, List.not_mem_nil, or_false] at hφ
                rcases hφ with rfl | rfl | rfl | rfl | rfl | rfl | rfl | rfl | rfl | rfl <;> exact ⟨_, rfl⟩
              · refine ⟨?_, ?_, ?_, ?_, ?_, ?_, ?_, ?_, ?_, ?_, trivial⟩
                · intro a1 w1 hG hF
                  exact d_old rfl (wants0 rfl) (.tmp 10) (.inr rfl) (.int .i64 (j : Nat)) (hF.ol 10 (by kernel_rfl)) rfl
                · intro a1 w1 hG hF
                  exact d_old rfl (wants0 rfl) (.tmp 10) (.inr rfl) (.int .i64 (j : Nat)) (hF.ol 10 (by kernel_rfl)) rfl
                · intro a1 w1 hG hF
                  have e6 : a1.eval (.tmp 6) = .pointer (some ⟨g6, 0, none⟩) := hF.ol 6 (by kernel_rfl)
                  obtain ⟨_, e56, rfl⟩ := hF.dp 1 56 (by kernel_rfl)
                  exact d_is rfl (wants0 rfl) _ rfl (run_idx Try.underlying73 (by kernel_rfl) e6 e56 (by omega))
                · intro a1 w1 hG hF
                  obtain ⟨_, e57, rfl⟩ := hF.dp 2 57 (by kernel_rfl)
                  exact d_is rfl (wants0 rfl) _ rfl (run_load1 Try.underlying3 e57 ((hG.cell _).trans c6))
                · intro a1 w1 hG hF
                  exact d_old rfl (wants0 rfl) (.tmp 1) (.inr rfl) (.string t) (hF.ol 1 (by kernel_rfl)) rfl
                · intro a1 w1 hG hF
                  exact d_old rfl (wants0 rfl) (.tmp 10) (.inr rfl) (.int .i64 (j : Nat)) (hF.ol 10 (by kernel_rfl)) rfl
                · intro a1 w1 hG hF
                  obtain ⟨_, e59, rfl⟩ := hF.dp 4 59 (by kernel_rfl)
                  obtain ⟨_, e60, rfl⟩ := hF.dp 5 60 (by kernel_rfl)
                  exact d_is rfl (wants0 rfl) _ rfl (run_idxS Try.underlying9 e59 e60 (by omega) hd)
                · intro a1 w1 hG hF
                  obtain ⟨_, e61, rfl⟩ := hF.dp 6 61 (by kernel_rfl)
                  exact d_is rfl (wants0 rfl) _ rfl (run_u8int Try.underlying5 Try.underlying3 e61)
                · intro a1 w1 hG hF
                  obtain ⟨_, e58, rfl⟩ := hF.dp 3 58 (by kernel_rfl)
                  obtain ⟨_, e62, rfl⟩ := hF.dp 7 62 (by kernel_rfl)
                  exact d_is rfl (wants0 rfl) _ rfl (run_addN (a := x) (b := (d).toNat) e58 e62 (by omega))
                · intro a1 w1 hG hF
                  have e6 : a1.eval (.tmp 6) = .pointer (some ⟨g6, 0, none⟩) := hF.ol 6 (by kernel_rfl)
                  obtain ⟨_, e55, rfl⟩ := hF.dp 0 55 (by kernel_rfl)
                  exact d_is rfl (wants0 rfl) _ rfl (run_idx Try.underlying73 (by kernel_rfl) e6 e55 (by omega))
              · intro a1 w1 hG hF
                obtain ⟨_, e64, rfl⟩ := hF.dp 9 64 (by kernel_rfl)
                obtain ⟨_, e63, rfl⟩ := hF.dp 8 63 (by kernel_rfl)
                exact ⟨wants0 rfl, run_store1 (by kernel_rfl) e64 e63 (by rw [hG.cell]; exact (Option.isSome_iff_exists.2 ⟨_, c6⟩)) (by rw [hG.frozen]; exact (hM.at_ 0 rfl).frozen _)⟩
              intro vs k0 hf
              clear hf
              simp only [putAll, Nat.zero_add, Nat.reduceAdd]
              have hM' := (hM.dr ⟨k0, rfl⟩).set 0 rfl j (.int .i64 ((x + d.toNat : Nat) : Int))
              rw [i64s_set, HAS.out] at hM'
              simp only [List.set] at hM'
              generalize ((World.drewN _ k0).setCell _ _) = W1 at hM' ⊢
              clear hM c6
              go_simp
              go_wp2_with fail
              go_roundw
              case rel => exact ⟨j + 1, by omega, by go_num, hM'⟩
              case measure => simp [intOf]; omega
            · obtain rfl : j = k := by omega
              have hj34 : j < 34 := by omega
              obtain ⟨x, hx⟩ : ∃ x, x = (A j).getD j 0 := ⟨_, rfl⟩
              have hxl : x ≤ 510 := by rw [hx]; exact HALE.out j j
              have c6 := (hM.at_ 0 rfl).i64 (a := j) (by rw [HAL.out]; omega)
              rw [← hx] at c6
              have f6 := (hM.at_ 0 rfl).frozen j
              obtain ⟨z, hz⟩ : ∃ z, z = (A j).set j (x + 1) := ⟨_, rfl⟩
              have hzl : z.length = 34 := by rw [hz, List.length_set, HAL.out]
              have hz40 : Lt40 z := by
                rw [hz]
                refine Lt40.set (fun i => ?_) _ (by omega)
                have := HALE.out j i
                omega
              have hAe := HAE.out
              rw [← hx, ← hz] at hAe
              obtain ⟨v1, hv1⟩ : ∃ v1, v1 = v + (leNat p + 256 ^ j) := ⟨_, rfl⟩
              rw [← hv1] at hAe
              have hM2 := hM.set 0 rfl j (.int .i64 ((x + 1 : Nat) : Int))
              rw [i64s_set, ← hz] at hM2
              simp only [List.set] at hM2
              rw [show ((x + 1 : Nat) : Int) = (x : Int) + 1 from rfl] at hM2
              have hc := fun w => refCarry_any z hzl hz40 w
              rw [hAe.1] at hc
              obtain ⟨y, hy⟩ : ∃ y, y = dig 34 v1 := ⟨_, rfl⟩
              have hyl : y.length = 34 := by rw [hy]; simp
              rw [← hy] at hc
              obtain ⟨t2, ht2⟩ : ∃ t2, t2 = S (r + 1) := ⟨_, rfl⟩
              have hsl := fun w => run_cutB (P := Try.prog) Try.underlying9 t t2 (b.drop (16 * r)) j (by rw [HT.out]; exact HSt.out r) (by have := HTL.out; have := HM.out; have := HN.out; rw [List.length_drop]; omega) (by rw [ht2, HSt.out, drop_next HN.out HM.out HKM.out]) w
              have HT2 := Lib.hid ht2
              have HV1 := Lib.hid hv1
              have HY := Lib.hid hy
              have HAE1 := Lib.hid hAe
              clear hx hz hAe hv1 hy ht2 hM
              go_wp2_with first
                | (refine wpList_load_mid rfl 73 (.tmp 6) rfl g6 0 rfl (i64s z) _ (hM2.at_ 0 rfl).range Try.underlying73 rfl (info34 _ hzl) ?_)
                | (go_at_call 39; refine (hc _).mono ?_; rintro e w6 ⟨rfl, hB6⟩; replace hM2 := hM2.gr hB0 hB6; clear hB6)
                | (refine wpList_putM hM2 0 rfl rfl 73 (.tmp 6) (.tmp 75) rfl (i64s y) rfl rfl (by rw [i64s_length, i64s_length, hzl, hyl]) (info34 _ hyl) (i64s_oneCell _) ?_; intro w7 hM7 _)
              simp only [List.set] at hM7
              generalize hW8 : w7.alloc _ = W8
              have hM8 : Mem g5 w W8 [(w7.heap.size, 73, i64s (List.replicate 34 0)), (g6, 73, i64s y), (g5, 73, i64s rr)] := by rw [← hW8]; exact hM7.new hB0 (by kernel_rfl)
              have hy256 : ∀ i, y.getD i 0 < 256 := by rw [HY.out]; exact dig_get256 34 v1
              obtain ⟨X, hX⟩ : ∃ X : Nat → List Nat, X = fun i => prAt (List.replicate 34 0) y rr i := ⟨_, rfl⟩
              obtain ⟨Y, hYd⟩ : ∃ Y : Nat → Nat → List Nat, Y = fun i k => adAt (prAt (List.replicate 34 0) y rr i) rr (y.getD i 0) i k := ⟨_, rfl⟩
              have HX0 : Hid (X 0 = List.replicate 34 0) := by show _ = _; rw [hX]; rfl
              have HY0 : Hid (∀ i, Y i 0 = X i) := by intro i; rw [hX, hYd]; rfl
              have HY17 : Hid (∀ i, Y i 17 = X (i + 1)) := by intro i; rw [hX, hYd]; rfl
              have HYS : Hid (∀ i k x, x = (Y i k).getD (i + k) 0 + y.getD i 0 * rr.getD k 0 → (Y i k).set (i + k) x = Y i (k + 1)) := by intro i k x hx; rw [hx, hYd]; rfl
              have HYL : Hid (∀ i k, (Y i k).length = 34) := by intro i k; rw [hYd]; simp
              have HYB : Hid (∀ i k j, i < 17 → (Y i k).getD j 0 ≤ 2000000) := by intro i k j hi; rw [hYd]; exact Y_le hy256 H256.out i k j hi
              have HPB : Hid (∀ i k, y.getD i 0 * rr.getD k 0 ≤ 65025) := pr_le hy256 H256.out
              have HX17 : Hid (val256 (X 17) = v1 * R ∧ (X 17).length = 34 ∧ Lt40 (X 17)) := by
                rw [hX]
                refine ⟨?_, by simp, fun i => ?_⟩
                · simp only []
                  rw [HY.out]
                  exact prod_val HAE1.out.2 HRV.out
                · have := X_le hy256 H256.out 17 i
                  show (prAt (List.replicate 34 0) y rr 17).getD i 0 < _
                  omega
              rw [← HX0.out] at hM8
              clear hX hYd hsl hc hy256 hM2 hM7 hW8
              generalize w7.heap.size = g11 at hM8 ⊢
              go_loopw [12] (fun iv wr => ∃ i : Nat, i ≤ 17 ∧ iv = .int .i64 i ∧ Mem g5 w wr [(g11, 73, i64s (X i)), (g6, 73, i64s y), (g5, 73, i64s rr)]) (fun i _ => 17 - (intOf i).toNat)
              case atStart => exact ⟨0, by omega, rfl, hM8⟩
              case round =>
                clear hM8
                obtain ⟨i, hi, rfl, hM⟩ := hrel
                by_cases hli : i < 17
                · rw [← HY0.out i] at hM
                  go_wp2_with fail
                  go_simp
                  go_loopw [13] (fun kv wr => ∃ k : Nat, k ≤ 17 ∧ kv = .int .i64 k ∧ Mem g5 w wr [(g11, 73, i64s (Y i k)), (g6, 73, i64s y), (g5, 73, i64s rr)]) (fun i _ => 17 - (intOf i).toNat)
                  case atStart => exact ⟨0, by omega, rfl, hM⟩
                  case round =>
                    clear hM
                    obtain ⟨k, hk, rfl, hM⟩ := hrel
                    by_cases hlk : k < 17
                    · obtain ⟨x, hx⟩ : ∃ x, x = (Y i k).getD (i + k) 0 := ⟨_, rfl⟩
                      obtain ⟨yi, hyi⟩ : ∃ x, x = y.getD i 0 := ⟨_, rfl⟩
                      obtain ⟨rk, hrk⟩ : ∃ x, x = rr.getD k 0 := ⟨_, rfl⟩
                      obtain ⟨pr, hpr⟩ : ∃ x, x = yi * rk := ⟨_, rfl⟩
                      have hxl : x ≤ 2000000 := by rw [hx]; exact HYB.out i k _ hli
                      have hprl : pr ≤ 65025 := by rw [hpr, hyi, hrk]; exact HPB.out i k
                      have c11 := (hM.at_ 0 rfl).i64 (a := i + k) (by rw [HYL.out]; omega)
                      have c6 := (hM.at_ 1 rfl).i64 (a := i) (by omega)
                      have c5 := (hM.at_ 2 rfl).i64 (a := k) (by omega)
                      rw [← hx] at c11
                      rw [← hyi] at c6
                      rw [← hrk] at c5
                      have hYs := HYS.out i k (x + pr) (by rw [hx, hpr, hyi, hrk])
                      have HYs := Lib.hid hYs
                      have HPR := Lib.hid hpr
                      clear hx hyi hrk hpr hYs
                      go_wp2_with fail
                      refine wp_region_st (by kernel_rfl) [IsV (.int .i64 (i : Nat)), IsV (.int .i64 (k : Nat)), IsV (.int .i64 ((i + k) : Nat)), IsV (.int .i64 (i : Nat)), IsV (.int .i64 (k : Nat)), IsV (.int .i64 ((i + k) : Nat)), IsV (.pointer (some ⟨g11, (i + k), none⟩)), IsV (.int .i64 (x : Nat)), IsV (.int .i64 (i : Nat)), IsV (.pointer (some ⟨g6, i, none⟩)), IsV (.int .i64 (yi : Nat)), IsV (.int .i64 (k : Nat)), IsV (.pointer (some ⟨g5, k, none⟩)), IsV (.int .i64 (rk : Nat)), IsV (.int .i64 (pr : Nat)), IsV (.int .i64 ((x + pr) : Nat)), IsV (.pointer (some ⟨g11, (i + k), none⟩))] 17 _ rfl rfl rfl (by kernel_rfl) (by kernel_rfl) ?_ (⟨g11, (i + k), none⟩ : Addr) (.int .i64 ((x + pr) : Nat)) ?_ ?_ ?_
                      · intro φ hφ
                        simp only [List.mem_cons, List.not_mem_nil, or_false] at hφ
                        rcases hφ with rfl | rfl | rfl | rfl | rfl | rfl | rfl | rfl | rfl | rfl | rfl | rfl | rfl | rfl | rfl | rfl | rfl <;> exact ⟨_, rfl⟩
                      · refine ⟨?_, ?_, ?_, ?_, ?_, ?_, ?_, ?_, ?_, ?_, ?_, ?_, ?_, ?_, ?_, ?_, ?_, trivial⟩
                        · intro a1 w1 hG hF
                          exact d_old rfl (wants0 rfl) (.tmp 12) (.inr rfl) (.int .i64 (i : Nat)) (hF.ol 12 (by kernel_rfl)) rfl
                        · intro a1 w1 hG hF
                          exact d_old rfl (wants0 rfl) (.tmp 13) (.inr rfl) (.int .i64 (k : Nat)) (hF.ol 13 (by kernel_rfl)) rfl
                        · intro a1 w1 hG hF
                          obtain ⟨_, e84, rfl⟩ := hF.dp 0 84 (by kernel_rfl)
                          obtain ⟨_, e85, rfl⟩ := hF.dp 1 85 (by kernel_rfl)
                          exact d_is rfl (wants0 rfl) _ rfl (run_addN (a := i) (b := k) e84 e85 (by omega))
                        · intro a1 w1 hG hF
                          exact d_old rfl (wants0 rfl) (.tmp 12) (.inr rfl) (.int .i64 (i : Nat)) (hF.ol 12 (by kernel_rfl)) rfl
                        · intro a1 w1 hG hF
                          exact d_old rfl (wants0 rfl) (.tmp 13) (.inr rfl) (.int .i64 (k : Nat)) (hF.ol 13 (by kernel_rfl)) rfl
                        · intro a1 w1 hG hF
                          obtain ⟨_, e87, rfl⟩ := hF.dp 3 87 (by kernel_rfl)
                          obtain ⟨_, e88, rfl⟩ := hF.dp 4 88 (by kernel_rfl)
                          exact d_is rfl (wants0 rfl) _ rfl (run_addN (a := i) (b := k) e87 e88 (by omega))
                        · intro a1 w1 hG hF
                          have e11 : a1.eval (.tmp 11) = .pointer (some ⟨g11, 0, none⟩) := hF.ol 11 (by kernel_rfl)
                          obtain ⟨_, e89, rfl⟩ := hF.dp 5 89 (by kernel_rfl)
                          exact d_is rfl (wants0 rfl) _ rfl (run_idx Try.underlying73 (by kernel_rfl) e11 e89 (by omega))
                        · intro a1 w1 hG hF
                          obtain ⟨_, e90, rfl⟩ := hF.dp 6 90 (by kernel_rfl)
                          exact d_is rfl (wants0 rfl) _ rfl (run_load1 Try.underlying3 e90 ((hG.cell _).trans c11))
                        · intro a1 w1 hG hF
                          exact d_old rfl (wants0 rfl) (.tmp 12) (.inr rfl) (.int .i64 (i : Nat)) (hF.ol 12 (by kernel_rfl)) rfl
                        · intro a1 w1 hG hF
                          have e6 : a1.eval (.tmp 6) = .pointer (some ⟨g6, 0, none⟩) := hF.ol 6 (by kernel_rfl)
                          obtain ⟨_, e92, rfl⟩ := hF.dp 8 92 (by kernel_rfl)
                          exact d_is rfl (wants0 rfl) _ rfl (run_idx Try.underlying73 (by kernel_rfl) e6 e92 (by omega))
                        · intro a1 w1 hG hF
                          obtain ⟨_, e93, rfl⟩ := hF.dp 9 93 (by kernel_rfl)
                          exact d_is rfl (wants0 rfl) _ rfl (run_load1 Try.underlying3 e93 ((hG.cell _).trans c6))
                        · intro a1 w1 hG hF
                          exact d_old rfl (wants0 rfl) (.tmp 13) (.inr rfl) (.int .i64 (k : Nat)) (hF.ol 13 (by kernel_rfl)) rfl
                        · intro a1 w1 hG hF
                          have e5 : a1.eval (.tmp 5) = .pointer (some ⟨g5, 0, none⟩) := hF.ol 5 (by kernel_rfl)
                          obtain ⟨_, e95, rfl⟩ := hF.dp 11 95 (by kernel_rfl)
                          exact d_is rfl (wants0 rfl) _ rfl (run_idx Try.underlying73 (by kernel_rfl) e5 e95 (by omega))
                        · intro a1 w1 hG hF
                          obtain ⟨_, e96, rfl⟩ := hF.dp 12 96 (by kernel_rfl)
                          exact d_is rfl (wants0 rfl) _ rfl (run_load1 Try.underlying3 e96 ((hG.cell _).trans c5))
                        · intro a1 w1 hG hF
                          obtain ⟨_, e94, rfl⟩ := hF.dp 10 94 (by kernel_rfl)
                          obtain ⟨_, e97, rfl⟩ := hF.dp 13 97 (by kernel_rfl)
                          exact d_is rfl (wants0 rfl) _ rfl (run_mulI e94 e97 (by rw [HPR.out]; rfl) (by omega) (by omega))
                        · intro a1 w1 hG hF
                          obtain ⟨_, e91, rfl⟩ := hF.dp 7 91 (by kernel_rfl)
                          obtain ⟨_, e98, rfl⟩ := hF.dp 14 98 (by kernel_rfl)
                          exact d_is rfl (wants0 rfl) _ rfl (run_addN (a := x) (b := pr) e91 e98 (by omega))
                        · intro a1 w1 hG hF
                          have e11 : a1.eval (.tmp 11) = .pointer (some ⟨g11, 0, none⟩) := hF.ol 11 (by kernel_rfl)
                          obtain ⟨_, e86, rfl⟩ := hF.dp 2 86 (by kernel_rfl)
                          exact d_is rfl (wants0 rfl) _ rfl (run_idx Try.underlying73 (by kernel_rfl) e11 e86 (by omega))
                      · intro a1 w1 hG hF
                        obtain ⟨_, e100, rfl⟩ := hF.dp 16 100 (by kernel_rfl)
                        obtain ⟨_, e99, rfl⟩ := hF.dp 15 99 (by kernel_rfl)
                        exact ⟨wants0 rfl, run_store1 (by kernel_rfl) e100 e99 (by rw [hG.cell]; exact (Option.isSome_iff_exists.2 ⟨_, c11⟩)) (by rw [hG.frozen]; exact (hM.at_ 0 rfl).frozen _)⟩
                      intro vs k0 hf
                      clear hf
                      simp only [putAll, Nat.zero_add, Nat.reduceAdd]
                      have hM' := (hM.dr ⟨k0, rfl⟩).set 0 rfl (i + k) (.int .i64 ((x + pr : Nat) : Int))
                      rw [i64s_set, HYs.out] at hM'
                      simp only [List.set] at hM'
                      generalize ((World.drewN _ k0).setCell _ _) = W1 at hM' ⊢
                      clear hM c6 c5 c11
                      go_simp
                      go_wp2_with fail
                      go_roundw
                      case rel => exact ⟨k + 1, by omega, by go_num, hM'⟩
                      case measure => simp [intOf]; omega
                    · obtain rfl : k = 17 := by omega
                      rw [HY17.out i] at hM
                      simp only [show ((17 : Nat) : Int) = 17 from rfl]
                      go_wp2_with fail
                      go_roundw
                      case rel => exact ⟨i + 1, by omega, by go_num, hM⟩
                      case measure => simp [intOf]; omega
                · obtain rfl : i = 17 := by omega
                  obtain ⟨hx1, hx2, hx3⟩ := HX17.out
                  have hc := fun w => refCarry_any (X 17) hx2 hx3 w
                  rw [hx1] at hc
                  obtain ⟨u, hu⟩ : ∃ u, u = X 17 := ⟨_, rfl⟩
                  rw [← hu] at hc hM hx2
                  have hvR : v1 * R < 256 ^ 34 := by
                    have h1 := HAE1.out.2
                    have h2 : R < 256 ^ 17 := by
                      have h3 := leNat_lt (rL K)
                      rw [HR.out]
                      refine Nat.lt_of_lt_of_le h3 (Nat.pow_le_pow_right (by omega) ?_)
                      simp [rL, maskR]
                      omega
                    rw [show (34 : Nat) = 17 + 17 by rfl, Nat.pow_add]
                    exact Nat.mul_lt_mul'' h1 h2
                  have hf := fun w => fold_any (v1 * R) hvR w
                  obtain ⟨z1, hz1⟩ : ∃ z1, z1 = dig 34 (v1 * R) := ⟨_, rfl⟩
                  obtain ⟨z2, hz2⟩ : ∃ z2, z2 = dig 34 (v1 * R % P130) := ⟨_, rfl⟩
                  have hz2l : z2.length = 34 := by rw [hz2]; simp
                  rw [← hz1] at hc hf
                  rw [← hz2] at hf
                  have HFN : Hid (F (r + 1) = z2) := by
                    show _ = _
                    rw [HF.out, hz2, pH, ← HV.out, ← HP.out, HPL.out, ← HV1.out, HR.out]
                  clear hu hvR hz1 hz2 hx1 hx3
                  simp only [show ((17 : Nat) : Int) = 17 from rfl]
                  have mk : True := trivial
                  go_wp2_with first
                    | (refine wpList_load_mid rfl 73 (.tmp 11) rfl g11 0 rfl (i64s u) _ (hM.at_ 0 rfl).range Try.underlying73 rfl (info34 _ hx2) ?_)
                    | (go_at_call 39; refine (hc _).mono ?_; rintro e w8 ⟨rfl, hB6⟩; replace hM := hM.gr hB0 hB6; clear hB6)
                    | (go_at_call 40; refine (hf _).mono ?_; rintro e w9 ⟨rfl, hB6⟩; replace hM := hM.gr hB0 hB6; clear hB6)
                    | (refine wpList_putM hM 1 rfl rfl 73 (.tmp 6) (.tmp 103) rfl (i64s z2) rfl rfl (by rw [i64s_length, i64s_length, hyl, hz2l]) (info34 _ hz2l) (i64s_oneCell _) ?_; intro w10 hM10 _)
                  simp only [List.set] at hM10
                  rw [← HFN.out] at hM10
                  go_simp
                  refine ⟨⟨r + 1, by omega, by rw [HT2.out], hM10.drop1⟩, ?_⟩
                  show t2.size < t.size
                  have e1 := HSl.out (r + 1)
                  have e2 := HTL.out
                  have e3 := HM.out
                  rw [← HT2.out] at e1
                  omega
        · have ht0 : t.size = 0 := by omega
          have ht0' : ¬ 0 < t.size := by omega
          obtain ⟨v, hv⟩ : ∃ v, v = pH R b r := ⟨_, rfl⟩
          have hvl : v < P130 := by rw [hv]; exact pH_lt _ _ _
          rw [HF.out r, ← hv] at hM
          obtain ⟨q, hq⟩ : ∃ q, q = (K.drop 16).map UInt8.toNat := ⟨_, rfl⟩
          obtain ⟨A, hA⟩ : ∃ A : Nat → List Nat, A = fun j => adAt (dig 34 v) q 1 0 j := ⟨_, rfl⟩
          have hAl : ∀ j, (A j).length = 34 := by intro j; rw [hA]; simp
          have hAle : ∀ j i, (A j).getD i 0 ≤ 510 := by intro j i; rw [hA]; exact ad1_le (dig_get256 34 v) (by rw [hq]; exact toNat_get256 _) j i
          have hAset : ∀ j x, x = (A j).getD j 0 + q.getD j 0 → (A j).set j x = A (j + 1) := by rw [hA]; intro j x hx; exact ad1_set _ _ _ _ hx
          have hA0 : dig 34 v = A 0 := by rw [hA]; rfl
          have hqd : ∀ j d, j < 16 → s.data.toList[16 + j]? = some d → q.getD j 0 = d.toNat := by
            intro j d hj hd
            rw [hq]
            refine toNat_getD ?_
            rw [List.getElem?_drop]
            rw [HS.out] at hd
            simpa using hd
          obtain ⟨T, hT⟩ : ∃ T, T = v + leNat (K.drop 16) := ⟨_, rfl⟩
          have hTl : T < 256 ^ 34 := by
            have h1 := leNat_lt (K.drop 16)
            rw [List.length_drop, hK] at h1
            have h2 : (256 : Nat) ^ (32 - 16) = 340282366920938463463374607431768211456 := pow16
            rw [h2] at h1
            have hP : P130 = 1361129467683753853853498429727072845819 := by decide +kernel
            rw [pow34, hT]
            omega
          have hAe : val256 (A 16) = T := by
            have h1 := adAt_val (dig 34 v) q 1 0 16 (by simp)
            simp only [Nat.pow_zero, Nat.one_mul] at h1
            rw [hA]
            show val256 (adAt (dig 34 v) q 1 0 16) = T
            rw [h1, val256_dig, Nat.mod_eq_of_lt (by rw [hT] at hTl; omega), hq, List.take_of_length_le (by simp [hK]), val256_toNat, hT]
          have hTag : tagL K b = leBytes 16 T := by
            rw [tagL, hT, hv, HR.out]
            congr 3
            have e := HN.out
            omega
          rw [hA0] at hM
          have HQD := Lib.hid hqd
          have HAL := Lib.hid hAl
          have HALE := Lib.hid hAle
          have HASET := Lib.hid hAset
          have HAE := Lib.hid hAe
          have HTAG := Lib.hid hTag
          have HT := Lib.hid ht0
          clear ht htl hm hv hvl hq hA hAl hAle hAset hA0 hqd hAe hT hTl hTag ht0 hlt
          go_wp2_with fail
          go_simp
          go_loopw [14] (fun i wr => ∃ j : Nat, j ≤ 16 ∧ i = .int .i64 j ∧ Mem g5 w wr [(g6, 73, i64s (A j)), (g5, 73, i64s rr)]) (fun i _ => 16 - (intOf i).toNat)
          case atStart => exact ⟨0, by omega, rfl, hM⟩
          case round =>
            clear hM
            obtain ⟨j, hj, rfl, hM⟩ := hrel
            by_cases hlj : j < 16
            · have hjs : 16 + j < s.size := by omega
              obtain ⟨d, hd⟩ : ∃ x, s[16 + j] = x := ⟨_, rfl⟩
              have hqj := HQD.out j d hlj (by rw [← hd]; simp [ByteArray.getElem_eq_getElem_data, hjs])
              have hd1 := d.toNat_lt
              obtain ⟨x, hx⟩ : ∃ x, x = (A j).getD j 0 := ⟨_, rfl⟩
              have hxl : x ≤ 510 := by rw [hx]; exact HALE.out j j
              have c6 := (hM.at_ 0 rfl).i64 (a := j) (by rw [HAL.out]; omega)
              rw [← hx] at c6
              have hAs := HASET.out j (x + d.toNat) (by rw [hx, hqj])
              have HAS := Lib.hid hAs
              clear hqj hx hAs
              go_wp2_with fail
              refine wp_region_st (by kernel_rfl) [IsV (.int .i64 (j : Nat)), IsV (.int .i64 (j : Nat)), IsV (.pointer (some ⟨g6, j, none⟩)), IsV (.int .i64 (x : Nat)), IsV (.string s), IsV (.int .i64 (j : Nat)), IsV (.int .i64 ((16 + j) : Nat)), IsV (.int .u8 (d).toNat), IsV (.int .i64 ((d).toNat : Nat)), IsV (.int .i64 ((x + (d).toNat) : Nat)), IsV (.pointer (some ⟨g6, j, none⟩))] 11 _ rfl rfl rfl (by kernel_rfl) (by kernel_rfl) ?_ (⟨g6, j, none⟩ : Addr) (.int .i64 ((x + (d).toNat) : Nat)) ?_ ?_ ?_
              · intro φ hφ
                simp only [List.mem_cons, List.not_mem_nil, or_false] at hφ
                rcases hφ with rfl | rfl | rfl | rfl | rfl | rfl | rfl | rfl | rfl | rfl | rfl <;> exact ⟨_, rfl⟩
              · refine ⟨?_, ?_, ?_, ?_, ?_, ?_, ?_, ?_, ?_, ?_, ?_, trivial⟩
                · intro a1 w1 hG hF
                  exact d_old rfl (wants0 rfl) (.tmp 14) (.inr rfl) (.int .i64 (j : Nat)) (hF.ol 14 (by kernel_rfl)) rfl
                · intro a1 w1 hG hF
                  exact d_old rfl (wants0 rfl) (.tmp 14) (.inr rfl) (.int .i64 (j : Nat)) (hF.ol 14 (by kernel_rfl)) rfl
                · intro a1 w1 hG hF
                  have e6 : a1.eval (.tmp 6) = .pointer (some ⟨g6, 0, none⟩) := hF.ol 6 (by kernel_rfl)
                  obtain ⟨_, e109, rfl⟩ := hF.dp 1 109 (by kernel_rfl)
                  exact d_is rfl (wants0 rfl) _ rfl (run_idx Try.underlying73 (by kernel_rfl) e6 e109 (by omega))
                · intro a1 w1 hG hF
                  obtain ⟨_, e110, rfl⟩ := hF.dp 2 110 (by kernel_rfl)
                  exact d_is rfl (wants0 rfl) _ rfl (run_load1 Try.underlying3 e110 ((hG.cell _).trans c6))
                · intro a1 w1 hG hF
                  exact d_old rfl (wants0 rfl) (.tmp 0) (.inr rfl) (.string s) (hF.ol 0 (by kernel_rfl)) rfl
                · intro a1 w1 hG hF
                  exact d_old rfl (wants0 rfl) (.tmp 14) (.inr rfl) (.int .i64 (j : Nat)) (hF.ol 14 (by kernel_rfl)) rfl
                · intro a1 w1 hG hF
                  obtain ⟨_, e113, rfl⟩ := hF.dp 5 113 (by kernel_rfl)
                  exact d_is rfl (wants0 rfl) _ rfl (run_addN (a := 16) (b := j) rfl e113 (by omega))
                · intro a1 w1 hG hF
                  obtain ⟨_, e112, rfl⟩ := hF.dp 4 112 (by kernel_rfl)
                  obtain ⟨_, e114, rfl⟩ := hF.dp 6 114 (by kernel_rfl)
                  exact d_is rfl (wants0 rfl) _ rfl (run_idxS Try.underlying9 e112 e114 (by omega) hd)
                · intro a1 w1 hG hF
                  obtain ⟨_, e115, rfl⟩ := hF.dp 7 115 (by kernel_rfl)
                  exact d_is rfl (wants0 rfl) _ rfl (run_u8int Try.underlying5 Try.underlying3 e115)
                · intro a1 w1 hG hF
                  obtain ⟨_, e111, rfl⟩ := hF.dp 3 111 (by kernel_rfl)
                  obtain ⟨_, e116, rfl⟩ := hF.dp 8 116 (by kernel_rfl)
                  exact d_is rfl (wants0 rfl) _ rfl (run_addN (a := x) (b := (d).toNat) e111 e116 (by omega))
                · intro a1 w1 hG hF
                  have e6 : a1.eval (.tmp 6) = .pointer (some ⟨g6, 0, none⟩) := hF.ol 6 (by kernel_rfl)
                  obtain ⟨_, e108, rfl⟩ := hF.dp 0 108 (by kernel_rfl)
                  exact d_is rfl (wants0 rfl) _ rfl (run_idx Try.underlying73 (by kernel_rfl) e6 e108 (by omega))
              · intro a1 w1 hG hF
                obtain ⟨_, e118, rfl⟩ := hF.dp 10 118 (by kernel_rfl)
                obtain ⟨_, e117, rfl⟩ := hF.dp 9 117 (by kernel_rfl)
                exact ⟨wants0 rfl, run_store1 (by kernel_rfl) e118 e117 (by rw [hG.cell]; exact (Option.isSome_iff_exists.2 ⟨_, c6⟩)) (by rw [hG.frozen]; exact (hM.at_ 0 rfl).frozen _)⟩
              intro vs k0 hf
              clear hf
              simp only [putAll, Nat.zero_add, Nat.reduceAdd]
              have hM' := (hM.dr ⟨k0, rfl⟩).set 0 rfl j (.int .i64 ((x + d.toNat : Nat) : Int))
              rw [i64s_set, HAS.out] at hM'
              simp only [List.set] at hM'
              generalize ((World.drewN _ k0).setCell _ _) = W1 at hM' ⊢
              clear hM c6
              go_simp
              go_wp2_with fail
              go_roundw
              case rel => exact ⟨j + 1, by omega, by go_num, hM'⟩
              case measure => simp [intOf]; omega
            · obtain rfl : j = 16 := by omega
              have hz40 : Lt40 (A 16) := by
                intro i
                have := HALE.out 16 i
                omega
              have hc := fun w => refCarry_any (A 16) (HAL.out 16) hz40 w
              rw [HAE.out] at hc
              obtain ⟨z, hz⟩ : ∃ z, z = A 16 := ⟨_, rfl⟩
              have hzl : z.length = 34 := by rw [hz]; exact HAL.out 16
              rw [← hz] at hc hM
              obtain ⟨y, hy⟩ : ∃ y, y = dig 34 T := ⟨_, rfl⟩
              have hyl : y.length = 34 := by rw [hy]; simp
              rw [← hy] at hc
              have HY := Lib.hid hy
              clear hz hy hz40
              simp only [show ((16 : Nat) : Int) = 16 from rfl]
              go_wp2_with first
                | (refine wpList_load_mid rfl 73 (.tmp 6) rfl g6 0 rfl (i64s z) _ (hM.at_ 0 rfl).range Try.underlying73 rfl (info34 _ hzl) ?_)
                | (go_at_call 39; refine (hc _).mono ?_; rintro e w6 ⟨rfl, hB6⟩; replace hM := hM.gr hB0 hB6; clear hB6)
                | (refine wpList_putM hM 0 rfl rfl 73 (.tmp 6) (.tmp 120) rfl (i64s y) rfl rfl (by rw [i64s_length, i64s_length, hzl, hyl]) (info34 _ hyl) (i64s_oneCell _) ?_; intro w7 hM7 _)
              simp only [List.set] at hM7
              clear hM hc hzl
              go_simp
              have hB8 := hM7.size hB0
              go_loopw [15, 16] (fun sv i wr => ∃ j : Nat, j ≤ 16 ∧ i = .int .i64 j ∧ wr.ownsRow w7.heap.size 5 1 sv j (u8s (leBytes j T)) ∧ Gr w7 wr) (fun _ i _ => 16 - (intOf i).toNat)
              case atStart => exact ⟨0, by omega, rfl, World.ownsRow_nil _ _ _ _, Gr.refl _⟩
              case round =>
                obtain ⟨j, hj, rfl, hown, hG⟩ := hrel
                by_cases hlj : j < 16
                · obtain ⟨x, hx⟩ : ∃ x, x = T / 256 ^ j % 256 := ⟨_, rfl⟩
                  have hxl : x < 256 := by rw [hx]; exact Nat.mod_lt _ (by omega)
                  have c6 := ((hM7.gr hB0 hG).at_ 0 rfl).i64 (a := j) (by omega)
                  rw [HY.out, dig_get 34 T j (by omega), ← hx] at c6
                  obtain ⟨c, hc⟩ : ∃ c, c = UInt8.ofNat (T / 256 ^ j) := ⟨_, rfl⟩
                  have hxc : (x : Int) = (c.toNat : Int) := by rw [hx, hc, UInt8.toNat_ofNat']
                  have hy1 : Value.int .u8 ((x : Int) % 256) = .int .u8 (c.toNat : Int) := by rw [← hxc]; congr 1; omega
                  have hy2 : Value.int .u8 (x : Int) = .int .u8 (c.toNat : Int) := by rw [hxc]
                  have HC : Hid (u8s (leBytes (j + 1) T) = u8s (leBytes j T) ++ [.int .u8 (c.toNat : Int)]) := by show _ = _; rw [leBytes_snoc, u8s_append, u8s_one, hc]
                  have HY1 := Lib.hid hy1
                  have HY2 := Lib.hid hy2
                  have hbs := hG.size
                  clear hx hc hxc hy1 hy2
                  go_wp2_with (at_builtin; go_must (refine wpList_app1 wr rfl (.tmp 125) (.tmp 130) 26 rfl w7.heap.size 5 i0 (.int .u8 0) 1 Try.underlying26 hi0 hz0 hz1 hz2 rfl u15 j _ rfl hown _ (.int .u8 (c.toNat : Int)) rfl (by first | exact HY1.out | exact HY2.out) rfl (by omega) (by unfold maxLen; omega) hbs ?_); intro v' w1 hA)
                  have hG' : Gr w7 w1 := Below.trans hG (hA.below hown hbs)
                  have ho := hA.own
                  rw [← HC.out] at ho
                  clear hA hown hG
                  go_simp
                  go_wp2_with fail
                  go_roundw
                  case rel => exact ⟨j + 1, by omega, by go_num, ho⟩
                  case measure => simp [intOf]; omega
                · obtain rfl : j = 16 := by omega
                  obtain ⟨A8, c8, rfl, _, _⟩ := own_form hown
                  have hcv := run_str (P := Try.prog) (c := c8) wr Try.underlying26 Try.underlying5 Try.underlying9 (Rd.of_own hown)
                  rw [← HTAG.out] at hcv
                  go_wp2_with fail
                  go_ret
                  exact ⟨rfl, by have := (hM7.gr hB0 hG).below; rw [HG.out] at this; exact this⟩
end Go.Proofs.Ythffodfnnjejnaa

