/- Small laws of this seat, laid as one text. No condition. -/
import Derived.Test.YtnmhfomnlnlflaaDoorKitE
import Derived.Test.YtnmhfomnlnlflaaDoorKitC
import Derived.Test.YtnmhfomnlnlflaaDoorKitB
import Derived.Test.YtnmhfomnlnlflaaDoorKitA
import Derived.Deep.Cut
import Derived.Lib.SlBytesConst
/- The walk of the document's Tag. No condition. -/
namespace Go.Proofs.YtnmhfomnlnlflaaDoor
open Go.RowKit
/-- The digits of r, so many of them laid. -/
def rcL (K : List UInt8) (k : Nat) : List Nat := ((rL K).take k).map UInt8.toNat ++ List.replicate (34 - k) 0
theorem rL_length {K : List UInt8} (hK : K.length = 32) : (rL K).length = 16 := by simp [rL, maskR, hK]
theorem rcL_length {K : List UInt8} (hK : K.length = 32) (k : Nat) (hk : k ≤ 16) : (rcL K k).length = 34 := by simp [rcL, rL_length hK]; omega
theorem rcL_set {K : List UInt8} (hK : K.length = 32) (k x : Nat) (hk : k < 16) (hx : x = ((rL K).getD k 0).toNat) : (rcL K k).set k x = rcL K (k + 1) := by
  have hl := rL_length hK
  have e1 : (rL K).take (k + 1) = (rL K).take k ++ [(rL K).getD k 0] := take_snoc_ _ k _ (by rw [List.getD_eq_getElem?_getD, List.getElem?_eq_getElem (by omega)]; rfl)
  unfold rcL
  rw [e1, List.map_append, List.append_assoc, List.set_append_right _ _ (by simp; omega), hx]
  congr 1
  rw [List.length_map, List.length_take, hl, Nat.min_eq_left (by omega), Nat.sub_self, show 34 - k = (34 - (k + 1)) + 1 by omega, List.replicate_succ]
  rfl
theorem and_mask : ∀ n : Fin 256, (UInt8.ofNat n.val &&& 255).toNat = n.val ∧ (UInt8.ofNat n.val &&& 15).toNat = n.val % 16 ∧ (UInt8.ofNat n.val &&& 252).toNat = n.val - n.val % 4 := by decide +kernel
theorem and_mask' (d : UInt8) : (d &&& 255).toNat = d.toNat ∧ (d &&& 15).toNat = d.toNat % 16 ∧ (d &&& 252).toNat = d.toNat - d.toNat % 4 := by
  have := and_mask ⟨d.toNat, d.toNat_lt⟩
  simpa using this
theorem rL_at {K : List UInt8} {k : Nat} (hk : k < 16) {d : UInt8} (hd : K[k]? = some d) : (rL K).getD k 0 = d &&& maskR.getD k 0 := by
  obtain ⟨m, hm⟩ : ∃ m, maskR[k]? = some m := ⟨_, List.getElem?_eq_getElem (by simpa [maskR] using hk)⟩
  rw [rL, List.getD_eq_getElem?_getD, List.getD_eq_getElem?_getD, List.getElem?_zipWith, List.getElem?_take, if_pos hk, hd, hm]
  rfl
theorem mask_at : ∀ k : Fin 16, maskR.getD k.val 0 = if k.val % 4 = 3 then 15 else if 0 < k.val ∧ k.val % 4 = 0 then 252 else 255 := by decide +kernel
theorem rL_mask {K : List UInt8} {k : Nat} (hk : k < 16) {d : UInt8} (hd : K[k]? = some d) : ((rL K).getD k 0).toNat = if k % 4 = 3 then d.toNat % 16 else if 0 < k ∧ k % 4 = 0 then d.toNat - d.toNat % 4 else d.toNat := by
  have h := mask_at ⟨k, hk⟩
  simp only at h
  rw [rL_at hk hd, h]
  split
  · exact (and_mask' d).2.1
  · split
    · exact (and_mask' d).2.2
    · exact (and_mask' d).1
theorem val256_toNat (l : List UInt8) : val256 (l.map UInt8.toNat) = leNat l := by
  induction l with
  | nil => rfl
  | cons c r ih => rw [List.map_cons, val256, leNat, ih]
theorem toNat_get256 (l : List UInt8) (i : Nat) : (l.map UInt8.toNat).getD i 0 < 256 := by
  rw [List.getD_eq_getElem?_getD, List.getElem?_map]
  cases l[i]? with
  | none => simp
  | some c => exact c.toNat_lt
theorem toNat_getD {l : List UInt8} {i : Nat} {d : UInt8} (h : l[i]? = some d) : (l.map UInt8.toNat).getD i 0 = d.toNat := by
  rw [List.getD_eq_getElem?_getD, List.getElem?_map, h]; rfl
theorem ad1_set (l h : List Nat) (k x : Nat) (hx : x = (adAt l h 1 0 k).getD k 0 + h.getD k 0) : (adAt l h 1 0 k).set k x = adAt l h 1 0 (k + 1) := by
  subst hx
  rw [adAt, Nat.zero_add, Nat.one_mul]
theorem ad1_le {l h : List Nat} (hl : ∀ i, l.getD i 0 < 256) (hh : ∀ i, h.getD i 0 < 256) (k j : Nat) : (adAt l h 1 0 k).getD j 0 ≤ 510 := by
  have h1 := adAt_le l h 1 0 255 (fun k => by have := hh k; omega) k j
  have h2 := hl j
  omega
theorem rep_dig : List.replicate 34 0 = dig 34 0 := by decide +kernel
theorem run_cutB {P : Program} {T : TypeId} (hT : P.underlying T = some .string) (t u : ByteArray) (l : List UInt8) (k : Nat) (ht : t = ⟨l.toArray⟩) (hk : k ≤ l.length) (hu : u = ⟨(l.drop k).toArray⟩) (w : World) :
    (Instr.slice T (.string t) (some (.int .i64 (k : Int))) none none).run P w = .ok (.string u) w := by
  subst ht hu
  exact run_cutS_l hT l k k rfl hk w
theorem drop_next {b : List UInt8} {n r m k : Nat} (hn : n = b.length) (hm : m = n - 16 * r) (hk : k = min m 16) : (b.drop (16 * r)).drop k = b.drop (16 * (r + 1)) := by
  rw [List.drop_drop]
  rcases Nat.lt_or_ge m 16 with h | h
  · rw [List.drop_of_length_le (by omega), List.drop_of_length_le (by omega)]
  · congr 1; omega
theorem pr_le {h r : List Nat} (hh : ∀ i, h.getD i 0 < 256) (hr : ∀ i, r.getD i 0 < 256) (i k : Nat) : h.getD i 0 * r.getD k 0 ≤ 65025 := by
  have h1 := hh i
  have h2 := hr k
  exact Nat.le_trans (Nat.mul_le_mul (show _ ≤ 255 by omega) (show _ ≤ 255 by omega)) (by omega)
theorem X_le {h r : List Nat} (hh : ∀ i, h.getD i 0 < 256) (hr : ∀ i, r.getD i 0 < 256) (i j : Nat) : (prAt (List.replicate 34 0) h r i).getD j 0 ≤ i * 65025 := by
  have h1 := prAt_le (List.replicate 34 0) h r 65025 (pr_le hh hr) i j
  have h2 : (List.replicate 34 0).getD j 0 = 0 := by
    rw [List.getD_eq_getElem?_getD, List.getElem?_replicate]; split <;> rfl
  omega
theorem Y_le {h r : List Nat} (hh : ∀ i, h.getD i 0 < 256) (hr : ∀ i, r.getD i 0 < 256) (i k j : Nat) (hi : i < 17) : (adAt (prAt (List.replicate 34 0) h r i) r (h.getD i 0) i k).getD j 0 ≤ 2000000 := by
  have h1 := adAt_le (prAt (List.replicate 34 0) h r i) r (h.getD i 0) i 65025 (fun k => pr_le hh hr i k) k j
  have h2 := X_le hh hr i j
  have h3 : i * 65025 ≤ 16 * 65025 := Nat.mul_le_mul_right _ (by omega)
  omega
theorem rcL_val {K : List UInt8} (hK : K.length = 32) : val256 ((rcL K 16).take 17) = leNat (rL K) := by
  have hl := rL_length hK
  have e : (rcL K 16).take 17 = (rL K).map UInt8.toNat ++ [0] := by
    rw [rcL, List.take_of_length_le (l := rL K) (by omega), List.take_append, List.take_of_length_le (l := (rL K).map UInt8.toNat) (by simp [hl])]
    simp [hl]
  rw [e, val256_snoc, val256_toNat]
  omega
theorem rcL_get256 {K : List UInt8} (i : Nat) : (rcL K 16).getD i 0 < 256 := by
  rw [rcL, List.getD_eq_getElem?_getD, List.getElem?_append]
  split
  · have := toNat_get256 ((rL K).take 16) i
    rwa [List.getD_eq_getElem?_getD] at this
  · rw [List.getElem?_replicate]
    split <;> simp
theorem pH_lt (r : Nat) (b : List UInt8) (k : Nat) : pH r b k < P130 := by
  cases k with
  | zero => show 0 < P130; decide +kernel
  | succ k => exact Nat.mod_lt _ (by decide +kernel)
theorem round_val {v k : Nat} {p : List UInt8} (hv : v < P130) (hp : p.length = k) (hk : k ≤ 16) :
    (adAt (dig 34 v) (p.map UInt8.toNat) 1 0 k).length = 34 ∧ val256 ((adAt (dig 34 v) (p.map UInt8.toNat) 1 0 k).set k ((adAt (dig 34 v) (p.map UInt8.toNat) 1 0 k).getD k 0 + 1)) = v + (leNat p + 256 ^ k) ∧ v + (leNat p + 256 ^ k) < 256 ^ 17 := by
  have hl : (adAt (dig 34 v) (p.map UInt8.toNat) 1 0 k).length = 34 := by simp
  have h1 := adAt_val (dig 34 v) (p.map UInt8.toNat) 1 0 k (by simp; omega)
  simp only [Nat.pow_zero, Nat.one_mul] at h1
  rw [val256_dig, List.take_of_length_le (by simp; omega), val256_toNat] at h1
  have hP : P130 = 1361129467683753853853498429727072845819 := by decide +kernel
  have hv34 : v % 256 ^ 34 = v := Nat.mod_eq_of_lt (by rw [pow34]; omega)
  rw [hv34] at h1
  have h2 := val256_set (l := adAt (dig 34 v) (p.map UInt8.toNat) 1 0 k) (i := k) ((adAt (dig 34 v) (p.map UInt8.toNat) 1 0 k).getD k 0 + 1) (by omega)
  rw [Nat.mul_add, Nat.mul_one] at h2
  refine ⟨hl, by omega, ?_⟩
  have h3 := leNat_lt p
  rw [hp] at h3
  have h4 : 256 ^ k ≤ 256 ^ 16 := Nat.pow_le_pow_right (by omega) hk
  rw [pow16] at h4
  rw [pow17]
  omega
theorem prod_val {v : Nat} {rr : List Nat} {R : Nat} (hv : v < 256 ^ 17) (hr : val256 (rr.take 17) = R) : val256 (prAt (List.replicate 34 0) (dig 34 v) rr 17) = v * R := by
  have h0 : val256 (List.replicate 34 0) = 0 := by decide +kernel
  have h1 := prAt_val (List.replicate 34 0) (dig 34 v) rr 17 (by simp)
  have e : (dig 34 v).take 17 = dig 17 v := by
    rw [dig_pad 17 17 v hv, List.take_append_of_le_length (by simp), List.take_of_length_le (by simp)]
  rw [h0, hr, e, val256_dig, Nat.mod_eq_of_lt hv, Nat.zero_add] at h1
  exact h1
def strLen : Value → Nat
  | .string s => s.size
  | _ => 0
set_option maxRecDepth 100000 in
set_option maxHeartbeats 8000000 in
theorem refTag_any (K : List UInt8) (hK : K.length = 32) (b : List UInt8) (hb : b.length ≤ 1000000) (w : World) :
    Calls Tryd.prog 80 #[.string ⟨K.toArray⟩, .string ⟨b.toArray⟩] w fun e w' => e = .returned (.string ⟨(tagL K b).toArray⟩) ∧ Below w.heap.size w w' := by
  obtain ⟨i0, hi0, hz0, hz1, hz2⟩ := info_parts Tryd.info5
  obtain ⟨s, hs⟩ : ∃ s : ByteArray, s = ⟨K.toArray⟩ := ⟨_, rfl⟩
  have hsl : s.size = 32 := by rw [hs]; exact hK
  have hs0 : s.size = s.size := rfl
  rw [← hs]
  have HS := Lib.hid hs
  have HSL := Lib.hid hsl
  have hsz1 : s.size ≤ 32 := by omega
  have hsz2 : 32 ≤ s.size := by omega
  clear hs hsl hs0
  go_enter Tryd.func80, Tryd.ntmps80
  go_wp2_with fail
  have hM : Mem w.heap.size w ((w.alloc (.cells (List.replicate 34 (.int .i64 0)).toArray 148)).alloc (.cells (List.replicate 34 (.int .i64 0)).toArray 148)) [(w.heap.size + 1, 148, i64s (List.replicate 34 0)), (w.heap.size, 148, i64s (rcL K 0))] := by
    have h := ((Mem.nil w).new (t := 148) (C := (List.replicate 34 (.int .i64 0)).toArray) (cs := i64s (rcL K 0)) (Nat.le_refl _) rfl).new (t := 148) (C := (List.replicate 34 (.int .i64 0)).toArray) (cs := i64s (List.replicate 34 0)) (Nat.le_refl _) rfl
    rw [asz] at h
    exact h
  obtain ⟨g5, hg5⟩ : ∃ g, g = w.heap.size := ⟨_, rfl⟩
  obtain ⟨g6, hg6⟩ : ∃ g, g = w.heap.size + 1 := ⟨_, rfl⟩
  have hB0 : g5 ≤ w.heap.size := by omega
  rw [← hg6, ← hg5] at hM
  simp only [← hg6]
  simp only [← hg5]
  have HG := Lib.hid hg5
  clear hg5 hg6
  go_loopw [7] (fun i wr => ∃ r : Nat, r ≤ 16 ∧ i = .int .i64 r ∧ Mem g5 w wr [(g6, 148, i64s (List.replicate 34 0)), (g5, 148, i64s (rcL K r))]) (fun i _ => 16 - (intOf i).toNat)
  case atStart => exact ⟨0, by omega, rfl, hM⟩
  case round =>
    clear hM
    obtain ⟨r, hr, rfl, hM⟩ := hrel
    by_cases hlt : r < 16
    · obtain ⟨d, hd⟩ : ∃ x, s[r] = x := ⟨_, rfl⟩
      have hdk : K[r]? = some d := by rw [← hd]; exact str_at HS.out (by omega)
      have hm := rL_mask hlt hdk
      have hd1 := d.toNat_lt
      have c5 := (hM.at_ 1 rfl).i64 (a := r) (by rw [rcL_length hK r hr]; omega)
      have f5 := (hM.at_ 1 rfl).frozen r
      obtain ⟨x, hx⟩ : ∃ x, x = ((rL K).getD r 0).toNat := ⟨_, rfl⟩
      have hM' := hM.set 1 rfl r (.int .i64 (x : Int))
      rw [i64s_set, rcL_set hK r x hlt hx] at hM'
      simp only [List.set] at hM'
      rw [← hx] at hm
      clear hdk hx
      by_cases h3 : r % 4 = 3
      · rw [if_pos h3] at hm
        have HM := Lib.hid hm
        clear hm
        have b1 : ((r : Int) % 4 == 3) = true := by rw [beq_iff_eq]; omega
        have b2 : ((r : Int) % 4 == 0) = false := by rw [beq_eq_false_iff_ne]; omega
        have b3 : 0 < r := by omega
        go_wp2_with fail
        rw [show (x : Int) = (d.toNat : Int) % 16 by rw [HM.out]; omega] at hM'
        exact ⟨⟨r + 1, by omega, by go_num, hM'⟩, by simp [intOf]; omega⟩
      · rw [if_neg h3] at hm
        have b1 : ((r : Int) % 4 == 3) = false := by rw [beq_eq_false_iff_ne]; omega
        by_cases h4 : 0 < r ∧ r % 4 = 0
        · rw [if_pos h4] at hm
          have HM := Lib.hid hm
          clear hm
          obtain ⟨b3, h4⟩ := h4
          have b2 : ((r : Int) % 4 == 0) = true := by rw [beq_iff_eq]; omega
          clear h4
          go_wp2_with fail
          rw [show (x : Int) = (d.toNat : Int) - (d.toNat : Int) % 4 by rw [HM.out]; omega] at hM'
          exact ⟨⟨r + 1, by omega, by go_num, hM'⟩, by simp [intOf]; omega⟩
        · rw [if_neg h4] at hm
          have HM := Lib.hid hm
          clear hm
          rcases Nat.eq_zero_or_pos r with h0 | h0
          · subst h0
            simp only [show ((0 : Nat) : Int) = 0 from rfl]
            go_wp2_with fail
            rw [show (x : Int) = (d.toNat : Int) by rw [HM.out]] at hM'
            exact ⟨⟨1, by omega, rfl, hM'⟩, by simp [intOf]⟩
          · have b2 : ((r : Int) % 4 == 0) = false := by rw [beq_eq_false_iff_ne]; omega
            clear h4
            go_wp2_with fail
            rw [show (x : Int) = (d.toNat : Int) by rw [HM.out]] at hM'
            exact ⟨⟨r + 1, by omega, by go_num, hM'⟩, by simp [intOf]; omega⟩
    · obtain rfl : r = 16 := by omega
      simp only [show ((16 : Nat) : Int) = 16 from rfl]
      go_wp2_with fail
      obtain ⟨rr, hrr⟩ : ∃ rr, rr = rcL K 16 := ⟨_, rfl⟩
      obtain ⟨R, hR⟩ : ∃ R, R = leNat (rL K) := ⟨_, rfl⟩
      have hrrl : rr.length = 34 := by rw [hrr]; exact rcL_length hK 16 (by omega)
      have hrr256 : ∀ i, rr.getD i 0 < 256 := by rw [hrr]; exact rcL_get256
      have hrrv : val256 (rr.take 17) = R := by rw [hrr, hR]; exact rcL_val hK
      obtain ⟨F, hF⟩ : ∃ F : Nat → List Nat, F = fun r => dig 34 (pH R b r) := ⟨_, rfl⟩
      obtain ⟨S, hS⟩ : ∃ S : Nat → ByteArray, S = fun r => ⟨(b.drop (16 * r)).toArray⟩ := ⟨_, rfl⟩
      have HF : Hid (∀ r, F r = dig 34 (pH R b r)) := by intro r; rw [hF]
      have HSt : Hid (∀ r, S r = ⟨(b.drop (16 * r)).toArray⟩) := by intro r; rw [hS]
      have HR := Lib.hid hR
      have HRV := Lib.hid hrrv
      have H256 := Lib.hid hrr256
      rw [← hrr, show i64s (List.replicate 34 0) = i64s (F 0) by rw [HF.out, rep_dig]; rfl] at hM
      have hS0 : (⟨b.toArray⟩ : ByteArray) = S 0 := by rw [hS]; rfl
      rw [hS0]
      obtain ⟨n, hn⟩ : ∃ n, n = b.length := ⟨_, rfl⟩
      have hSl : ∀ r, (S r).size = n - 16 * r := by intro r; rw [hS, hn]; show (b.drop _).length = _; simp
      have HSl := Lib.hid hSl
      have HN := Lib.hid hn
      rw [← hn] at hb
      clear hrr hR hF hS hS0 hrrv hrr256 hSl hn hlt
      go_loopw [1] (fun sv wr => ∃ r : Nat, 16 * r ≤ n + 15 ∧ sv = .string (S r) ∧ Mem g5 w wr [(g6, 148, i64s (F r)), (g5, 148, i64s rr)]) (fun sv _ => strLen sv)
      case atStart => exact ⟨0, by omega, rfl, hM⟩
      case round =>
        clear hM
        obtain ⟨r, hr, rfl, hM⟩ := hrel
        obtain ⟨t, ht⟩ : ∃ t, t = S r := ⟨_, rfl⟩
        have htl : t.size = n - 16 * r := by rw [ht]; exact HSl.out r
        obtain ⟨m, hm⟩ : ∃ m, m = n - 16 * r := ⟨_, rfl⟩
        rw [← hm] at htl
        rw [← ht]
        by_cases hlt : 16 * r < n
        · have hm0 : 0 < m := by omega
          obtain ⟨k, hk⟩ : ∃ k, k = min m 16 := ⟨_, rfl⟩
          have hkm : min (t.size : Int) 16 = (k : Int) := by omega
          have hk16 : k ≤ 16 := by omega
          have hkle : k ≤ t.size := by omega
          have ht0 : 0 < t.size := by omega
          have htb : t.size ≤ 1000000 := by omega
          have HT := Lib.hid ht
          have HTL := Lib.hid htl
          have HKM := Lib.hid hk
          have HM := Lib.hid hm
          obtain ⟨v, hv⟩ : ∃ v, v = pH R b r := ⟨_, rfl⟩
          have hvl : v < P130 := by rw [hv]; exact pH_lt _ _ _
          rw [HF.out r, ← hv] at hM
          have HV := Lib.hid hv
          have HVL := Lib.hid hvl
          clear ht htl hk hm hv hvl
          go_wp2_with fail
          obtain ⟨p, hp⟩ : ∃ p, p = blk b r := ⟨_, rfl⟩
          have hpl : p.length = k := by
            have e1 := HKM.out
            have e2 := HM.out
            have e3 := HTL.out
            have e4 := HN.out
            rw [hp, blk, List.length_take, List.length_drop, ← e4]
            omega
          have hrv := round_val HVL.out hpl hk16
          obtain ⟨q, hq⟩ : ∃ q, q = p.map UInt8.toNat := ⟨_, rfl⟩
          rw [← hq] at hrv
          obtain ⟨A, hA⟩ : ∃ A : Nat → List Nat, A = fun j => adAt (dig 34 v) q 1 0 j := ⟨_, rfl⟩
          have hAl : ∀ j, (A j).length = 34 := by intro j; rw [hA]; simp
          have hAle : ∀ j i, (A j).getD i 0 ≤ 510 := by intro j i; rw [hA]; exact ad1_le (dig_get256 34 v) (by rw [hq]; exact toNat_get256 p) j i
          have hAset : ∀ j x, x = (A j).getD j 0 + q.getD j 0 → (A j).set j x = A (j + 1) := by rw [hA]; intro j x hx; exact ad1_set _ _ _ _ hx
          have hA0 : dig 34 v = A 0 := by rw [hA]; rfl
          have hqd : ∀ j d, j < k → t.data.toList[j]? = some d → q.getD j 0 = d.toNat := by
            intro j d hj hd
            rw [hq]
            refine toNat_getD ?_
            rw [hp, blk, List.getElem?_take, if_pos (by omega)]
            have e5 := HSt.out r
            rw [← HT.out] at e5
            rw [e5] at hd
            simpa using hd
          have hAe : val256 ((A k).set k ((A k).getD k 0 + 1)) = v + (leNat p + 256 ^ k) ∧ v + (leNat p + 256 ^ k) < 256 ^ 17 := by rw [hA]; exact hrv.2
          rw [hA0] at hM
          have HQD := Lib.hid hqd
          have HAL := Lib.hid hAl
          have HALE := Lib.hid hAle
          have HASET := Lib.hid hAset
          have HAE := Lib.hid hAe
          have HP := Lib.hid hp
          have HPL := Lib.hid hpl
          clear hp hpl hrv hq hA hAl hAle hAset hA0 hqd hAe
          go_loopw [10] (fun i wr => ∃ j : Nat, j ≤ k ∧ i = .int .i64 j ∧ Mem g5 w wr [(g6, 148, i64s (A j)), (g5, 148, i64s rr)]) (fun i _ => k - (intOf i).toNat)
          case atStart => exact ⟨0, by omega, rfl, hM⟩
          case round =>
            clear hM
            obtain ⟨j, hj, rfl, hM⟩ := hrel
            by_cases hlj : j < k
            · obtain ⟨d, hd⟩ : ∃ x, t[j] = x := ⟨_, rfl⟩
              have hjt : j < t.size := by omega
              have hqj := HQD.out j d hlj (by rw [← hd]; simp [ByteArray.getElem_eq_getElem_data, hjt])
              have hd1 := d.toNat_lt
              obtain ⟨x, hx⟩ : ∃ x, x = (A j).getD j 0 := ⟨_, rfl⟩
              have hxl : x ≤ 510 := by rw [hx]; exact HALE.out j j
              have c6 := (hM.at_ 0 rfl).i64 (a := j) (by rw [HAL.out]; omega)
              rw [← hx] at c6
              have hAs := HASET.out j (x + d.toNat) (by rw [hx, hqj])
              have HAS := Lib.hid hAs
              clear hqj hx hAs
              go_wp2_with fail
              refine wp_region_st (by kernel_rfl) [IsV (.int .i64 (j : Nat)), IsV (.int .i64 (j : Nat)), IsV (.pointer (some ⟨g6, j, none⟩)), IsV (.int .i64 (x : Nat)), IsV (.string t), IsV (.int .i64 (j : Nat)), IsV (.int .u8 (d).toNat), IsV (.int .i64 ((d).toNat : Nat)), IsV (.int .i64 ((x + (d).toNat) : Nat)), IsV (.pointer (some ⟨g6, j, none⟩))] 10 _ rfl rfl rfl (by kernel_rfl) (by kernel_rfl) ?_ (⟨g6, j, none⟩ : Addr) (.int .i64 ((x + (d).toNat) : Nat)) ?_ ?_ ?_
              · intro φ hφ
                simp only [List.mem_cons, List.not_mem_nil, or_false] at hφ
                rcases hφ with rfl | rfl | rfl | rfl | rfl | rfl | rfl | rfl | rfl | rfl <;> exact ⟨_, rfl⟩
              · refine ⟨?_, ?_, ?_, ?_, ?_, ?_, ?_, ?_, ?_, ?_, trivial⟩
                · intro a1 w1 hG hF
                  exact d_old rfl (wants0 rfl) (.tmp 10) (.inr rfl) (.int .i64 (j : Nat)) (hF.ol 10 (by kernel_rfl)) rfl
                · intro a1 w1 hG hF
                  exact d_old rfl (wants0 rfl) (.tmp 10) (.inr rfl) (.int .i64 (j : Nat)) (hF.ol 10 (by kernel_rfl)) rfl
                · intro a1 w1 hG hF
                  have e6 : a1.eval (.tmp 6) = .pointer (some ⟨g6, 0, none⟩) := hF.ol 6 (by kernel_rfl)
                  obtain ⟨_, e56, rfl⟩ := hF.dp 1 56 (by kernel_rfl)
                  exact d_is rfl (wants0 rfl) _ rfl (run_idx Tryd.underlying148 (by kernel_rfl) e6 e56 (by omega))
                · intro a1 w1 hG hF
                  obtain ⟨_, e57, rfl⟩ := hF.dp 2 57 (by kernel_rfl)
                  exact d_is rfl (wants0 rfl) _ rfl (run_load1 Tryd.underlying3 e57 ((hG.cell _).trans c6))
                · intro a1 w1 hG hF
                  exact d_old rfl (wants0 rfl) (.tmp 1) (.inr rfl) (.string t) (hF.ol 1 (by kernel_rfl)) rfl
                · intro a1 w1 hG hF
                  exact d_old rfl (wants0 rfl) (.tmp 10) (.inr rfl) (.int .i64 (j : Nat)) (hF.ol 10 (by kernel_rfl)) rfl
                · intro a1 w1 hG hF
                  obtain ⟨_, e59, rfl⟩ := hF.dp 4 59 (by kernel_rfl)
                  obtain ⟨_, e60, rfl⟩ := hF.dp 5 60 (by kernel_rfl)
                  exact d_is rfl (wants0 rfl) _ rfl (run_idxS Tryd.underlying9 e59 e60 (by omega) hd)
                · intro a1 w1 hG hF
                  obtain ⟨_, e61, rfl⟩ := hF.dp 6 61 (by kernel_rfl)
                  exact d_is rfl (wants0 rfl) _ rfl (run_u8int Tryd.underlying5 Tryd.underlying3 e61)
                · intro a1 w1 hG hF
                  obtain ⟨_, e58, rfl⟩ := hF.dp 3 58 (by kernel_rfl)
                  obtain ⟨_, e62, rfl⟩ := hF.dp 7 62 (by kernel_rfl)
                  exact d_is rfl (wants0 rfl) _ rfl (run_addN (a := x) (b := (d).toNat) e58 e62 (by omega))
                · intro a1 w1 hG hF
                  have e6 : a1.eval (.tmp 6) = .pointer (some ⟨g6, 0, none⟩) := hF.ol 6 (by kernel_rfl)
                  obtain ⟨_, e55, rfl⟩ := hF.dp 0 55 (by kernel_rfl)
                  exact d_is rfl (wants0 rfl) _ rfl (run_idx Tryd.underlying148 (by kernel_rfl) e6 e55 (by omega))
              · intro a1 w1 hG hF
                obtain ⟨_, e64, rfl⟩ := hF.dp 9 64 (by kernel_rfl)
                obtain ⟨_, e63, rfl⟩ := hF.dp 8 63 (by kernel_rfl)
                exact ⟨wants0 rfl, run_store1 (by kernel_rfl) e64 e63 (by rw [hG.cell]; exact (Option.isSome_iff_exists.2 ⟨_, c6⟩)) (by rw [hG.frozen]; exact (hM.at_ 0 rfl).frozen _)⟩
              intro vs k0 hf
              clear hf
              simp only [putAll, Nat.zero_add, Nat.reduceAdd]
              have hM' := (hM.dr ⟨k0, rfl⟩).set 0 rfl j (.int .i64 ((x + d.toNat : Nat) : Int))
              rw [i64s_set, HAS.out] at hM'
              simp only [List.set] at hM'
              generalize ((World.drewN _ k0).setCell _ _) = W1 at hM' ⊢
              clear hM c6
              go_simp
              go_wp2_with fail
              go_roundw
              case rel => exact ⟨j + 1, by omega, by go_num, hM'⟩
              case measure => simp [intOf]; omega
            · obtain rfl : j = k := by omega
              have hj34 : j < 34 := by omega
              obtain ⟨x, hx⟩ : ∃ x, x = (A j).getD j 0 := ⟨_, rfl⟩
              have hxl : x ≤ 510 := by rw [hx]; exact HALE.out j j
              have c6 := (hM.at_ 0 rfl).i64 (a := j) (by rw [HAL.out]; omega)
              rw [← hx] at c6
              have f6 := (hM.at_ 0 rfl).frozen j
              obtain ⟨z, hz⟩ : ∃ z, z = (A j).set j (x + 1) := ⟨_, rfl⟩
              have hzl : z.length = 34 := by rw [hz, List.length_set, HAL.out]
              have hz40 : Lt40 z := by
                rw [hz]
                refine Lt40.set (fun i => ?_) _ (by omega)
                have := HALE.out j i
                omega
              have hAe := HAE.out
              rw [← hx, ← hz] at hAe
              obtain ⟨v1, hv1⟩ : ∃ v1, v1 = v + (leNat p + 256 ^ j) := ⟨_, rfl⟩
              rw [← hv1] at hAe
              have hM2 := hM.set 0 rfl j (.int .i64 ((x + 1 : Nat) : Int))
              rw [i64s_set, ← hz] at hM2
              simp only [List.set] at hM2
              rw [show ((x + 1 : Nat) : Int) = (x : Int) + 1 from rfl] at hM2
              have hc := fun w => refCarry_any z hzl hz40 w
              rw [hAe.1] at hc
              obtain ⟨y, hy⟩ : ∃ y, y = dig 34 v1 := ⟨_, rfl⟩
              have hyl : y.length = 34 := by rw [hy]; simp
              rw [← hy] at hc
              obtain ⟨t2, ht2⟩ : ∃ t2, t2 = S (r + 1) := ⟨_, rfl⟩
              have hsl := fun w => run_cutB (P := Tryd.prog) Tryd.underlying9 t t2 (b.drop (16 * r)) j (by rw [HT.out]; exact HSt.out r) (by have := HTL.out; have := HM.out; have := HN.out; rw [List.length_drop]; omega) (by rw [ht2, HSt.out, drop_next HN.out HM.out HKM.out]) w
              have HT2 := Lib.hid ht2
              have HV1 := Lib.hid hv1
              have HY := Lib.hid hy
              have HAE1 := Lib.hid hAe
              clear hx hz hAe hv1 hy ht2 hM
              go_wp2_with first
                | (refine wpList_load_mid rfl 148 (.tmp 6) rfl g6 0 rfl (i64s z) _ (hM2.at_ 0 rfl).range Tryd.underlying148 rfl (info34 _ hzl) ?_)
                | (go_at_call 95; refine (hc _).mono ?_; rintro e w6 ⟨rfl, hB6⟩; replace hM2 := hM2.gr hB0 hB6; clear hB6)
                | (refine wpList_putM hM2 0 rfl rfl 148 (.tmp 6) (.tmp 75) rfl (i64s y) rfl rfl (by rw [i64s_length, i64s_length, hzl, hyl]) (info34 _ hyl) (i64s_oneCell _) ?_; intro w7 hM7 _)
              simp only [List.set] at hM7
              generalize hW8 : w7.alloc _ = W8
              have hM8 : Mem g5 w W8 [(w7.heap.size, 148, i64s (List.replicate 34 0)), (g6, 148, i64s y), (g5, 148, i64s rr)] := by rw [← hW8]; exact hM7.new hB0 (by kernel_rfl)
              have hy256 : ∀ i, y.getD i 0 < 256 := by rw [HY.out]; exact dig_get256 34 v1
              obtain ⟨X, hX⟩ : ∃ X : Nat → List Nat, X = fun i => prAt (List.replicate 34 0) y rr i := ⟨_, rfl⟩
              obtain ⟨Y, hYd⟩ : ∃ Y : Nat → Nat → List Nat, Y = fun i k => adAt (prAt (List.replicate 34 0) y rr i) rr (y.getD i 0) i k := ⟨_, rfl⟩
              have HX0 : Hid (X 0 = List.replicate 34 0) := by show _ = _; rw [hX]; rfl
              have HY0 : Hid (∀ i, Y i 0 = X i) := by intro i; rw [hX, hYd]; rfl
              have HY17 : Hid (∀ i, Y i 17 = X (i + 1)) := by intro i; rw [hX, hYd]; rfl
              have HYS : Hid (∀ i k x, x = (Y i k).getD (i + k) 0 + y.getD i 0 * rr.getD k 0 → (Y i k).set (i + k) x = Y i (k + 1)) := by intro i k x hx; rw [hx, hYd]; rfl
              have HYL : Hid (∀ i k, (Y i k).length = 34) := by intro i k; rw [hYd]; simp
              have HYB : Hid (∀ i k j, i < 17 → (Y i k).getD j 0 ≤ 2000000) := by intro i k j hi; rw [hYd]; exact Y_le hy256 H256.out i k j hi
              have HPB : Hid (∀ i k, y.getD i 0 * rr.getD k 0 ≤ 65025) := pr_le hy256 H256.out
              have HX17 : Hid (val256 (X 17) = v1 * R ∧ (X 17).length = 34 ∧ Lt40 (X 17)) := by
                rw [hX]
                refine ⟨?_, by simp, fun i => ?_⟩
                · simp only []
                  rw [HY.out]
                  exact prod_val HAE1.out.2 HRV.out
                · have := X_le hy256 H256.out 17 i
                  show (prAt (List.replicate 34 0) y rr 17).getD i 0 < _
                  omega
              rw [← HX0.out] at hM8
              clear hX hYd hsl hc hy256 hM2 hM7 hW8
              generalize w7.heap.size = g11 at hM8 ⊢
              go_loopw [12] (fun iv wr => ∃ i : Nat, i ≤ 17 ∧ iv = .int .i64 i ∧ Mem g5 w wr [(g11, 148, i64s (X i)), (g6, 148, i64s y), (g5, 148, i64s rr)]) (fun i _ => 17 - (intOf i).toNat)
              case atStart => exact ⟨0, by omega, rfl, hM8⟩
              case round =>
                clear hM8
                obtain ⟨i, hi, rfl, hM⟩ := hrel
                by_cases hli : i < 17
                · rw [← HY0.out i] at hM
                  go_wp2_with fail
                  go_simp
                  go_loopw [13] (fun kv wr => ∃ k : Nat, k ≤ 17 ∧ kv = .int .i64 k ∧ Mem g5 w wr [(g11, 148, i64s (Y i k)), (g6, 148, i64s y), (g5, 148, i64s rr)]) (fun i _ => 17 - (intOf i).toNat)
                  case atStart => exact ⟨0, by omega, rfl, hM⟩
                  case round =>
                    clear hM
                    obtain ⟨k, hk, rfl, hM⟩ := hrel
                    by_cases hlk : k < 17
                    · obtain ⟨x, hx⟩ : ∃ x, x = (Y i k).getD (i + k) 0 := ⟨_, rfl⟩
                      obtain ⟨yi, hyi⟩ : ∃ x, x = y.getD i 0 := ⟨_, rfl⟩
                      obtain ⟨rk, hrk⟩ : ∃ x, x = rr.getD k 0 := ⟨_, rfl⟩
                      obtain ⟨pr, hpr⟩ : ∃ x, x = yi * rk := ⟨_, rfl⟩
                      have hxl : x ≤ 2000000 := by rw [hx]; exact HYB.out i k _ hli
                      have hprl : pr ≤ 65025 := by rw [hpr, hyi, hrk]; exact HPB.out i k
                      have c11 := (hM.at_ 0 rfl).i64 (a := i + k) (by rw [HYL.out]; omega)
                      have c6 := (hM.at_ 1 rfl).i64 (a := i) (by omega)
                      have c5 := (hM.at_ 2 rfl).i64 (a := k) (by omega)
                      rw [← hx] at c11
                      rw [← hyi] at c6
                      rw [← hrk] at c5
                      have hYs := HYS.out i k (x + pr) (by rw [hx, hpr, hyi, hrk])
                      have HYs := Lib.hid hYs
                      have HPR := Lib.hid hpr
                      clear hx hyi hrk hpr hYs
                      go_wp2_with fail
                      refine wp_region_st (by kernel_rfl) [IsV (.int .i64 (i : Nat)), IsV (.int .i64 (k : Nat)), IsV (.int .i64 ((i + k) : Nat)), IsV (.int .i64 (i : Nat)), IsV (.int .i64 (k : Nat)), IsV (.int .i64 ((i + k) : Nat)), IsV (.pointer (some ⟨g11, (i + k), none⟩)), IsV (.int .i64 (x : Nat)), IsV (.int .i64 (i : Nat)), IsV (.pointer (some ⟨g6, i, none⟩)), IsV (.int .i64 (yi : Nat)), IsV (.int .i64 (k : Nat)), IsV (.pointer (some ⟨g5, k, none⟩)), IsV (.int .i64 (rk : Nat)), IsV (.int .i64 (pr : Nat)), IsV (.int .i64 ((x + pr) : Nat)), IsV (.pointer (some ⟨g11, (i + k), none⟩))] 17 _ rfl rfl rfl (by kernel_rfl) (by kernel_rfl) ?_ (⟨g11, (i + k), none⟩ : Addr) (.int .i64 ((x + pr) : Nat)) ?_ ?_ ?_
                      · intro φ hφ
                        simp only [List.mem_cons, List.not_mem_nil, or_false] at hφ
                        rcases hφ with rfl | rfl | rfl | rfl | rfl | rfl | rfl | rfl | rfl | rfl | rfl | rfl | rfl | rfl | rfl | rfl | rfl <;> exact ⟨_, rfl⟩
                      · refine ⟨?_, ?_, ?_, ?_, ?_, ?_, ?_, ?_, ?_, ?_, ?_, ?_, ?_, ?_, ?_, ?_, ?_, trivial⟩
                        · intro a1 w1 hG hF
                          exact d_old rfl (wants0 rfl) (.tmp 12) (.inr rfl) (.int .i64 (i : Nat)) (hF.ol 12 (by kernel_rfl)) rfl
                        · intro a1 w1 hG hF
                          exact d_old rfl (wants0 rfl) (.tmp 13) (.inr rfl) (.int .i64 (k : Nat)) (hF.ol 13 (by kernel_rfl)) rfl
                        · intro a1 w1 hG hF
                          obtain ⟨_, e84, rfl⟩ := hF.dp 0 84 (by kernel_rfl)
                          obtain ⟨_, e85, rfl⟩ := hF.dp 1 85 (by kernel_rfl)
                          exact d_is rfl (wants0 rfl) _ rfl (run_addN (a := i) (b := k) e84 e85 (by omega))
                        · intro a1 w1 hG hF
                          exact d_old rfl (wants0 rfl) (.tmp 12) (.inr rfl) (.int .i64 (i : Nat)) (hF.ol 12 (by kernel_rfl)) rfl
                        · intro a1 w1 hG hF
                          exact d_old rfl (wants0 rfl) (.tmp 13) (.inr rfl) (.int .i64 (k : Nat)) (hF.ol 13 (by kernel_rfl)) rfl
                        · intro a1 w1 hG hF
                          obtain ⟨_, e87, rfl⟩ := hF.dp 3 87 (by kernel_rfl)
                          obtain ⟨_, e88, rfl⟩ := hF.dp 4 88 (by kernel_rfl)
                          exact d_is rfl (wants0 rfl) _ rfl (run_addN (a := i) (b := k) e87 e88 (by omega))
                        · intro a1 w1 hG hF
                          have e11 : a1.eval (.tmp 11) = .pointer (some ⟨g11, 0, none⟩) := hF.ol 11 (by kernel_rfl)
                          obtain ⟨_, e89, rfl⟩ := hF.dp 5 89 (by kernel_rfl)
                          exact d_is rfl (wants0 rfl) _ rfl (run_idx Tryd.underlying148 (by kernel_rfl) e11 e89 (by omega))
                        · intro a1 w1 hG hF
                          obtain ⟨_, e90, rfl⟩ := hF.dp 6 90 (by kernel_rfl)
                          exact d_is rfl (wants0 rfl) _ rfl (run_load1 Tryd.underlying3 e90 ((hG.cell _).trans c11))
                        · intro a1 w1 hG hF
                          exact d_old rfl (wants0 rfl) (.tmp 12) (.inr rfl) (.int .i64 (i : Nat)) (hF.ol 12 (by kernel_rfl)) rfl
                        · intro a1 w1 hG hF
                          have e6 : a1.eval (.tmp 6) = .pointer (some ⟨g6, 0, none⟩) := hF.ol 6 (by kernel_rfl)
                          obtain ⟨_, e92, rfl⟩ := hF.dp 8 92 (by kernel_rfl)
                          exact d_is rfl (wants0 rfl) _ rfl (run_idx Tryd.underlying148 (by kernel_rfl) e6 e92 (by omega))
                        · intro a1 w1 hG hF
                          obtain ⟨_, e93, rfl⟩ := hF.dp 9 93 (by kernel_rfl)
                          exact d_is rfl (wants0 rfl) _ rfl (run_load1 Tryd.underlying3 e93 ((hG.cell _).trans c6))
                        · intro a1 w1 hG hF
                          exact d_old rfl (wants0 rfl) (.tmp 13) (.inr rfl) (.int .i64 (k : Nat)) (hF.ol 13 (by kernel_rfl)) rfl
                        · intro a1 w1 hG hF
                          have e5 : a1.eval (.tmp 5) = .pointer (some ⟨g5, 0, none⟩) := hF.ol 5 (by kernel_rfl)
                          obtain ⟨_, e95, rfl⟩ := hF.dp 11 95 (by kernel_rfl)
                          exact d_is rfl (wants0 rfl) _ rfl (run_idx Tryd.underlying148 (by kernel_rfl) e5 e95 (by omega))
                        · intro a1 w1 hG hF
                          obtain ⟨_, e96, rfl⟩ := hF.dp 12 96 (by kernel_rfl)
                          exact d_is rfl (wants0 rfl) _ rfl (run_load1 Tryd.underlying3 e96 ((hG.cell _).trans c5))
                        · intro a1 w1 hG hF
                          obtain ⟨_, e94, rfl⟩ := hF.dp 10 94 (by kernel_rfl)
                          obtain ⟨_, e97, rfl⟩ := hF.dp 13 97 (by kernel_rfl)
                          exact d_is rfl (wants0 rfl) _ rfl (run_mulI e94 e97 (by rw [HPR.out]; rfl) (by omega) (by omega))
                        · intro a1 w1 hG hF
                          obtain ⟨_, e91, rfl⟩ := hF.dp 7 91 (by kernel_rfl)
                          obtain ⟨_, e98, rfl⟩ := hF.dp 14 98 (by kernel_rfl)
                          exact d_is rfl (wants0 rfl) _ rfl (run_addN (a := x) (b := pr) e91 e98 (by omega))
                        · intro a1 w1 hG hF
                          have e11 : a1.eval (.tmp 11) = .pointer (some ⟨g11, 0, none⟩) := hF.ol 11 (by kernel_rfl)
                          obtain ⟨_, e86, rfl⟩ := hF.dp 2 86 (by kernel_rfl)
                          exact d_is rfl (wants0 rfl) _ rfl (run_idx Tryd.underlying148 (by kernel_rfl) e11 e86 (by omega))
                      · intro a1 w1 hG hF
                        obtain ⟨_, e100, rfl⟩ := hF.dp 16 100 (by kernel_rfl)
                        obtain ⟨_, e99, rfl⟩ := hF.dp 15 99 (by kernel_rfl)
                        exact ⟨wants0 rfl, run_store1 (by kernel_rfl) e100 e99 (by rw [hG.cell]; exact (Option.isSome_iff_exists.2 ⟨_, c11⟩)) (by rw [hG.frozen]; exact (hM.at_ 0 rfl).frozen _)⟩
                      intro vs k0 hf
                      clear hf
                      simp only [putAll, Nat.zero_add, Nat.reduceAdd]
                      have hM' := (hM.dr ⟨k0, rfl⟩).set 0 rfl (i + k) (.int .i64 ((x + pr : Nat) : Int))
                      rw [i64s_set, HYs.out] at hM'
                      simp only [List.set] at hM'
                      generalize ((World.drewN _ k0).setCell _ _) = W1 at hM' ⊢
                      clear hM c6 c5 c11
                      go_simp
                      go_wp2_with fail
                      go_roundw
                      case rel => exact ⟨k + 1, by omega, by go_num, hM'⟩
                      case measure => simp [intOf]; omega
                    · obtain rfl : k = 17 := by omega
                      rw [HY17.out i] at hM
                      simp only [show ((17 : Nat) : Int) = 17 from rfl]
                      go_wp2_with fail
                      go_roundw
                      case rel => exact ⟨i + 1, by omega, by go_num, hM⟩
                      case measure => simp [intOf]; omega
                · obtain rfl : i = 17 := by omega
                  obtain ⟨hx1, hx2, hx3⟩ := HX17.out
                  have hc := fun w => refCarry_any (X 17) hx2 hx3 w
                  rw [hx1] at hc
                  obtain ⟨u, hu⟩ : ∃ u, u = X 17 := ⟨_, rfl⟩
                  rw [← hu] at hc hM hx2
                  have hvR : v1 * R < 256 ^ 34 := by
                    have h1 := HAE1.out.2
                    have h2 : R < 256 ^ 17 := by
                      have h3 := leNat_lt (rL K)
                      rw [HR.out]
                      refine Nat.lt_of_lt_of_le h3 (Nat.pow_le_pow_right (by omega) ?_)
                      simp [rL, maskR]
                      omega
                    rw [show (34 : Nat) = 17 + 17 by rfl, Nat.pow_add]
                    exact Nat.mul_lt_mul'' h1 h2
                  have hf := fun w => fold_any (v1 * R) hvR w
                  obtain ⟨z1, hz1⟩ : ∃ z1, z1 = dig 34 (v1 * R) := ⟨_, rfl⟩
                  obtain ⟨z2, hz2⟩ : ∃ z2, z2 = dig 34 (v1 * R % P130) := ⟨_, rfl⟩
                  have hz2l : z2.length = 34 := by rw [hz2]; simp
                  rw [← hz1] at hc hf
                  rw [← hz2] at hf
                  have HFN : Hid (F (r + 1) = z2) := by
                    show _ = _
                    rw [HF.out, hz2, pH, ← HV.out, ← HP.out, HPL.out, ← HV1.out, HR.out]
                  clear hu hvR hz1 hz2 hx1 hx3
                  simp only [show ((17 : Nat) : Int) = 17 from rfl]
                  have mk : True := trivial
                  go_wp2_with first
                    | (refine wpList_load_mid rfl 148 (.tmp 11) rfl g11 0 rfl (i64s u) _ (hM.at_ 0 rfl).range Tryd.underlying148 rfl (info34 _ hx2) ?_)
                    | (go_at_call 95; refine (hc _).mono ?_; rintro e w8 ⟨rfl, hB6⟩; replace hM := hM.gr hB0 hB6; clear hB6)
                    | (go_at_call 96; refine (hf _).mono ?_; rintro e w9 ⟨rfl, hB6⟩; replace hM := hM.gr hB0 hB6; clear hB6)
                    | (refine wpList_putM hM 1 rfl rfl 148 (.tmp 6) (.tmp 103) rfl (i64s z2) rfl rfl (by rw [i64s_length, i64s_length, hyl, hz2l]) (info34 _ hz2l) (i64s_oneCell _) ?_; intro w10 hM10 _)
                  simp only [List.set] at hM10
                  rw [← HFN.out] at hM10
                  go_simp
                  refine ⟨⟨r + 1, by omega, by rw [HT2.out], hM10.drop1⟩, ?_⟩
                  show t2.size < t.size
                  have e1 := HSl.out (r + 1)
                  have e2 := HTL.out
                  have e3 := HM.out
                  rw [← HT2.out] at e1
                  omega
        · have ht0 : t.size = 0 := by omega
          have ht0' : ¬ 0 < t.size := by omega
          obtain ⟨v, hv⟩ : ∃ v, v = pH R b r := ⟨_, rfl⟩
          have hvl : v < P130 := by rw [hv]; exact pH_lt _ _ _
          rw [HF.out r, ← hv] at hM
          obtain ⟨q, hq⟩ : ∃ q, q = (K.drop 16).map UInt8.toNat := ⟨_, rfl⟩
          obtain ⟨A, hA⟩ : ∃ A : Nat → List Nat, A = fun j => adAt (dig 34 v) q 1 0 j := ⟨_, rfl⟩
          have hAl : ∀ j, (A j).length = 34 := by intro j; rw [hA]; simp
          have hAle : ∀ j i, (A j).getD i 0 ≤ 510 := by intro j i; rw [hA]; exact ad1_le (dig_get256 34 v) (by rw [hq]; exact toNat_get256 _) j i
          have hAset : ∀ j x, x = (A j).getD j 0 + q.getD j 0 → (A j).set j x = A (j + 1) := by rw [hA]; intro j x hx; exact ad1_set _ _ _ _ hx
          have hA0 : dig 34 v = A 0 := by rw [hA]; rfl
          have hqd : ∀ j d, j < 16 → s.data.toList[16 + j]? = some d → q.getD j 0 = d.toNat := by
            intro j d hj hd
            rw [hq]
            refine toNat_getD ?_
            rw [List.getElem?_drop]
            rw [HS.out] at hd
            simpa using hd
          obtain ⟨T, hT⟩ : ∃ T, T = v + leNat (K.drop 16) := ⟨_, rfl⟩
          have hTl : T < 256 ^ 34 := by
            have h1 := leNat_lt (K.drop 16)
            rw [List.length_drop, hK] at h1
            have h2 : (256 : Nat) ^ (32 - 16) = 340282366920938463463374607431768211456 := pow16
            rw [h2] at h1
            have hP : P130 = 1361129467683753853853498429727072845819 := by decide +kernel
            rw [pow34, hT]
            omega
          have hAe : val256 (A 16) = T := by
            have h1 := adAt_val (dig 34 v) q 1 0 16 (by simp)
            simp only [Nat.pow_zero, Nat.one_mul] at h1
            rw [hA]
            show val256 (adAt (dig 34 v) q 1 0 16) = T
            rw [h1, val256_dig, Nat.mod_eq_of_lt (by rw [hT] at hTl; omega), hq, List.take_of_length_le (by simp [hK]), val256_toNat, hT]
          have hTag : tagL K b = leBytes 16 T := by
            rw [tagL, hT, hv, HR.out]
            congr 3
            have e := HN.out
            omega
          rw [hA0] at hM
          have HQD := Lib.hid hqd
          have HAL := Lib.hid hAl
          have HALE := Lib.hid hAle
          have HASET := Lib.hid hAset
          have HAE := Lib.hid hAe
          have HTAG := Lib.hid hTag
          have HT := Lib.hid ht0
          clear ht htl hm hv hvl hq hA hAl hAle hAset hA0 hqd hAe hT hTl hTag ht0 hlt
          go_wp2_with fail
          go_simp
          go_loopw [14] (fun i wr => ∃ j : Nat, j ≤ 16 ∧ i = .int .i64 j ∧ Mem g5 w wr [(g6, 148, i64s (A j)), (g5, 148, i64s rr)]) (fun i _ => 16 - (intOf i).toNat)
          case atStart => exact ⟨0, by omega, rfl, hM⟩
          case round =>
            clear hM
            obtain ⟨j, hj, rfl, hM⟩ := hrel
            by_cases hlj : j < 16
            · have hjs : 16 + j < s.size := by omega
              obtain ⟨d, hd⟩ : ∃ x, s[16 + j] = x := ⟨_, rfl⟩
              have hqj := HQD.out j d hlj (by rw [← hd]; simp [ByteArray.getElem_eq_getElem_data, hjs])
              have hd1 := d.toNat_lt
              obtain ⟨x, hx⟩ : ∃ x, x = (A j).getD j 0 := ⟨_, rfl⟩
              have hxl : x ≤ 510 := by rw [hx]; exact HALE.out j j
              have c6 := (hM.at_ 0 rfl).i64 (a := j) (by rw [HAL.out]; omega)
              rw [← hx] at c6
              have hAs := HASET.out j (x + d.toNat) (by rw [hx, hqj])
              have HAS := Lib.hid hAs
              clear hqj hx hAs
              go_wp2_with fail
              refine wp_region_st (by kernel_rfl) [IsV (.int .i64 (j : Nat)), IsV (.int .i64 (j : Nat)), IsV (.pointer (some ⟨g6, j, none⟩)), IsV (.int .i64 (x : Nat)), IsV (.string s), IsV (.int .i64 (j : Nat)), IsV (.int .i64 ((16 + j) : Nat)), IsV (.int .u8 (d).toNat), IsV (.int .i64 ((d).toNat : Nat)), IsV (.int .i64 ((x + (d).toNat) : Nat)), IsV (.pointer (some ⟨g6, j, none⟩))] 11 _ rfl rfl rfl (by kernel_rfl) (by kernel_rfl) ?_ (⟨g6, j, none⟩ : Addr) (.int .i64 ((x + (d).toNat) : Nat)) ?_ ?_ ?_
              · intro φ hφ
                simp only [List.mem_cons, List.not_mem_nil, or_false] at hφ
                rcases hφ with rfl | rfl | rfl | rfl | rfl | rfl | rfl | rfl | rfl | rfl | rfl <;> exact ⟨_, rfl⟩
              · refine ⟨?_, ?_, ?_, ?_, ?_, ?_, ?_, ?_, ?_, ?_, ?_, trivial⟩
                · intro a1 w1 hG hF
                  exact d_old rfl (wants0 rfl) (.tmp 14) (.inr rfl) (.int .i64 (j : Nat)) (hF.ol 14 (by kernel_rfl)) rfl
                · intro a1 w1 hG hF
                  exact d_old rfl (wants0 rfl) (.tmp 14) (.inr rfl) (.int .i64 (j : Nat)) (hF.ol 14 (by kernel_rfl)) rfl
                · intro a1 w1 hG hF
                  have e6 : a1.eval (.tmp 6) = .pointer (some ⟨g6, 0, none⟩) := hF.ol 6 (by kernel_rfl)
                  obtain ⟨_, e109, rfl⟩ := hF.dp 1 109 (by kernel_rfl)
                  exact d_is rfl (wants0 rfl) _ rfl (run_idx Tryd.underlying148 (by kernel_rfl) e6 e109 (by omega))
                · intro a1 w1 hG hF
                  obtain ⟨_, e110, rfl⟩ := hF.dp 2 110 (by kernel_rfl)
                  exact d_is rfl (wants0 rfl) _ rfl (run_load1 Tryd.underlying3 e110 ((hG.cell _).trans c6))
                · intro a1 w1 hG hF
                  exact d_old rfl (wants0 rfl) (.tmp 0) (.inr rfl) (.string s) (hF.ol 0 (by kernel_rfl)) rfl
                · intro a1 w1 hG hF
                  exact d_old rfl (wants0 rfl) (.tmp 14) (.inr rfl) (.int .i64 (j : Nat)) (hF.ol 14 (by kernel_rfl)) rfl
                · intro a1 w1 hG hF
                  obtain ⟨_, e113, rfl⟩ := hF.dp 5 113 (by kernel_rfl)
                  exact d_is rfl (wants0 rfl) _ rfl (run_addN (a := 16) (b := j) rfl e113 (by omega))
                · intro a1 w1 hG hF
                  obtain ⟨_, e112, rfl⟩ := hF.dp 4 112 (by kernel_rfl)
                  obtain ⟨_, e114, rfl⟩ := hF.dp 6 114 (by kernel_rfl)
                  exact d_is rfl (wants0 rfl) _ rfl (run_idxS Tryd.underlying9 e112 e114 (by omega) hd)
                · intro a1 w1 hG hF
                  obtain ⟨_, e115, rfl⟩ := hF.dp 7 115 (by kernel_rfl)
                  exact d_is rfl (wants0 rfl) _ rfl (run_u8int Tryd.underlying5 Tryd.underlying3 e115)
                · intro a1 w1 hG hF
                  obtain ⟨_, e111, rfl⟩ := hF.dp 3 111 (by kernel_rfl)
                  obtain ⟨_, e116, rfl⟩ := hF.dp 8 116 (by kernel_rfl)
                  exact d_is rfl (wants0 rfl) _ rfl (run_addN (a := x) (b := (d).toNat) e111 e116 (by omega))
                · intro a1 w1 hG hF
                  have e6 : a1.eval (.tmp 6) = .pointer (some ⟨g6, 0, none⟩) := hF.ol 6 (by kernel_rfl)
                  obtain ⟨_, e108, rfl⟩ := hF.dp 0 108 (by kernel_rfl)
                  exact d_is rfl (wants0 rfl) _ rfl (run_idx Tryd.underlying148 (by kernel_rfl) e6 e108 (by omega))
              · intro a1 w1 hG hF
                obtain ⟨_, e118, rfl⟩ := hF.dp 10 118 (by kernel_rfl)
                obtain ⟨_, e117, rfl⟩ := hF.dp 9 117 (by kernel_rfl)
                exact ⟨wants0 rfl, run_store1 (by kernel_rfl) e118 e117 (by rw [hG.cell]; exact (Option.isSome_iff_exists.2 ⟨_, c6⟩)) (by rw [hG.frozen]; exact (hM.at_ 0 rfl).frozen _)⟩
              intro vs k0 hf
              clear hf
              simp only [putAll, Nat.zero_add, Nat.reduceAdd]
              have hM' := (hM.dr ⟨k0, rfl⟩).set 0 rfl j (.int .i64 ((x + d.toNat : Nat) : Int))
              rw [i64s_set, HAS.out] at hM'
              simp only [List.set] at hM'
              generalize ((World.drewN _ k0).setCell _ _) = W1 at hM' ⊢
              clear hM c6
              go_simp
              go_wp2_with fail
              go_roundw
              case rel => exact ⟨j + 1, by omega, by go_num, hM'⟩
              case measure => simp [intOf]; omega
            · obtain rfl : j = 16 := by omega
              have hz40 : Lt40 (A 16) := by
                intro i
                have := HALE.out 16 i
                omega
              have hc := fun w => refCarry_any (A 16) (HAL.out 16) hz40 w
              rw [HAE.out] at hc
              obtain ⟨z, hz⟩ : ∃ z, z = A 16 := ⟨_, rfl⟩
              have hzl : z.length = 34 := by rw [hz]; exact HAL.out 16
              rw [← hz] at hc hM
              obtain ⟨y, hy⟩ : ∃ y, y = dig 34 T := ⟨_, rfl⟩
              have hyl : y.length = 34 := by rw [hy]; simp
              rw [← hy] at hc
              have HY := Lib.hid hy
              clear hz hy hz40
              simp only [show ((16 : Nat) : Int) = 16 from rfl]
              go_wp2_with first
                | (refine wpList_load_mid rfl 148 (.tmp 6) rfl g6 0 rfl (i64s z) _ (hM.at_ 0 rfl).range Tryd.underlying148 rfl (info34 _ hzl) ?_)
                | (go_at_call 95; refine (hc _).mono ?_; rintro e w6 ⟨rfl, hB6⟩; replace hM := hM.gr hB0 hB6; clear hB6)
                | (refine wpList_putM hM 0 rfl rfl 148 (.tmp 6) (.tmp 120) rfl (i64s y) rfl rfl (by rw [i64s_length, i64s_length, hzl, hyl]) (info34 _ hyl) (i64s_oneCell _) ?_; intro w7 hM7 _)
              simp only [List.set] at hM7
              clear hM hc hzl
              go_simp
              have hB8 := hM7.size hB0
              go_loopw [15, 16] (fun sv i wr => ∃ j : Nat, j ≤ 16 ∧ i = .int .i64 j ∧ wr.ownsRow w7.heap.size 5 1 sv j (u8s (leBytes j T)) ∧ Gr w7 wr) (fun _ i _ => 16 - (intOf i).toNat)
              case atStart => exact ⟨0, by omega, rfl, World.ownsRow_nil _ _ _ _, Gr.refl _⟩
              case round =>
                obtain ⟨j, hj, rfl, hown, hG⟩ := hrel
                by_cases hlj : j < 16
                · obtain ⟨x, hx⟩ : ∃ x, x = T / 256 ^ j % 256 := ⟨_, rfl⟩
                  have hxl : x < 256 := by rw [hx]; exact Nat.mod_lt _ (by omega)
                  have c6 := ((hM7.gr hB0 hG).at_ 0 rfl).i64 (a := j) (by omega)
                  rw [HY.out, dig_get 34 T j (by omega), ← hx] at c6
                  obtain ⟨c, hc⟩ : ∃ c, c = UInt8.ofNat (T / 256 ^ j) := ⟨_, rfl⟩
                  have hxc : (x : Int) = (c.toNat : Int) := by rw [hx, hc, UInt8.toNat_ofNat']
                  have hy1 : Value.int .u8 ((x : Int) % 256) = .int .u8 (c.toNat : Int) := by rw [← hxc]; congr 1; omega
                  have hy2 : Value.int .u8 (x : Int) = .int .u8 (c.toNat : Int) := by rw [hxc]
                  have HC : Hid (u8s (leBytes (j + 1) T) = u8s (leBytes j T) ++ [.int .u8 (c.toNat : Int)]) := by show _ = _; rw [leBytes_snoc, u8s_append, u8s_one, hc]
                  have HY1 := Lib.hid hy1
                  have HY2 := Lib.hid hy2
                  have hbs := hG.size
                  clear hx hc hxc hy1 hy2
                  go_wp2_with (at_builtin; go_must (refine wpList_app1 wr rfl (.tmp 125) (.tmp 130) 27 rfl w7.heap.size 5 i0 (.int .u8 0) 1 Tryd.underlying27 hi0 hz0 hz1 hz2 rfl u15 j _ rfl hown _ (.int .u8 (c.toNat : Int)) rfl (by first | exact HY1.out | exact HY2.out) rfl (by omega) (by unfold maxLen; omega) hbs ?_); intro v' w1 hA)
                  have hG' : Gr w7 w1 := Below.trans hG (hA.below hown hbs)
                  have ho := hA.own
                  rw [← HC.out] at ho
                  clear hA hown hG
                  go_simp
                  go_wp2_with fail
                  go_roundw
                  case rel => exact ⟨j + 1, by omega, by go_num, ho⟩
                  case measure => simp [intOf]; omega
                · obtain rfl : j = 16 := by omega
                  obtain ⟨A8, c8, rfl, _, _⟩ := own_form hown
                  have hcv := run_str (P := Tryd.prog) (c := c8) wr Tryd.underlying27 Tryd.underlying5 Tryd.underlying9 (Rd.of_own hown)
                  rw [← HTAG.out] at hcv
                  go_wp2_with fail
                  go_ret
                  exact ⟨rfl, by have := (hM7.gr hB0 hG).below; rw [HG.out] at this; exact this⟩
end Go.Proofs.YtnmhfomnlnlflaaDoor
/- The walks of aead's tag and of its reference's. No condition. -/
namespace Go.Proofs.YtnmhfomnlnlflaaDoor
open Go.RowKit
theorem infoB64 (l : List UInt8) (h : l.length = 64) : (Tryd.prog.info? 103).map (·.size) = some (u8s l).length := by simp only [u8s_length, h]; kernel_rfl
set_option maxRecDepth 100000 in
set_option maxHeartbeats 4000000 in
theorem aTag_any (K : List UInt8) (hK : K.length = 32) (N : List UInt8) (hN : N.length = 12) (A : Option Addr) (n c : Nat) (W : List UInt8) (B : Option Addr) (m d : Nat) (C : List UInt8) (hn : n ≤ 100000) (hm : m ≤ 100000) (w : World) (hr : Rd w A n (u8s W)) (hb : Rd w B m (u8s C)) :
    Calls Tryd.prog 37 #[.agg (u8s K).toArray, .agg (u8s N).toArray, .slice A n c, .slice B m d] w fun e w' => e = .returned (.agg (u8s (aTag K N W C)).toArray) ∧ Below w.heap.size w w' := by
  obtain ⟨i0, hi0, hz0, hz1, hz2⟩ := info_parts Tryd.info5
  have hWl : W.length = n := by simpa using hr.1
  have hCl : C.length = m := by simpa using hb.1
  have hpW := padA_le W
  have hpC := padA_le C
  obtain ⟨bk, hbk⟩ : ∃ bk, bk = blockL K 0 N := ⟨_, rfl⟩
  have hbl : bk.length = 64 := by rw [hbk]; simp
  have HB : Hid (∀ w, Calls Tryd.prog 51 #[.agg (u8s K).toArray, .int .u32 0, .agg (u8s N).toArray] w fun e w' => e = .returned (.agg (u8s bk).toArray) ∧ Below w.heap.size w w') := by
    intro w
    rw [hbk]
    exact block_any K hK 0 N hN w
  obtain ⟨T, hT⟩ : ∃ T, T = aTag K N W C := ⟨_, rfl⟩
  have hTl : T.length = 16 := by rw [hT]; simp
  have HT : Hid (∀ w A n c, n ≤ c → Rd w A n (u8s (overL W C)) → Calls Tryd.prog 54 #[.agg (u8s (bk.take 32)).toArray, .slice A n c] w fun e w' => e = .returned (.agg (u8s T).toArray) ∧ Below w.heap.size w w') := by
    intro w A n c hnc hr
    rw [hT, aTag, ← hbk]
    exact polyTag_any (bk.take 32) (by simp [hbl]) A n c _ hnc w hr
  rw [← hT]
  have HO : Hid (padA W ++ padA C ++ leBytes 8 n ++ leBytes 8 m = overL W C) := by
    show _ = _
    rw [overL, hWl, hCl]
  have hn64 : (n : Int) < 18446744073709551616 := by omega
  clear hbk hT
  have iK := info22 K hK
  have iN := info24 N hN
  have h4 : Arr (((w.alloc (.cells (u8s K).toArray 22)).alloc (.cells (u8s N).toArray 68)).alloc (.cells (u8s (List.replicate 16 0)).toArray 88)) w.heap.size 22 (u8s K) := Arr.alloc (Arr.alloc (Arr.newAt rfl rfl) _) _
  have h5 : Arr (((w.alloc (.cells (u8s K).toArray 22)).alloc (.cells (u8s N).toArray 68)).alloc (.cells (u8s (List.replicate 16 0)).toArray 88)) (w.heap.size + 1) 68 (u8s N) := Arr.alloc (Arr.newAt (asz _ _) rfl) _
  have h8 : Arr (((w.alloc (.cells (u8s K).toArray 22)).alloc (.cells (u8s N).toArray 68)).alloc (.cells (u8s (List.replicate 16 0)).toArray 88)) (w.heap.size + 1 + 1) 88 (u8s (List.replicate 16 0)) := Arr.newAt (by simp only [asz]) rfl
  have G0 : Gr w (((w.alloc (.cells (u8s K).toArray 22)).alloc (.cells (u8s N).toArray 68)).alloc (.cells (u8s (List.replicate 16 0)).toArray 88)) := ((Gr.alloc _ _).trans (Gr.alloc _ _)).trans (Gr.alloc _ _)
  go_enter Tryd.func37, Tryd.ntmps37
  go_upto_region 1 with fail
  change Code.wp _ _ _ _ (((w.alloc (.cells (u8s K).toArray 22)).alloc (.cells (u8s N).toArray 68)).alloc (.cells (u8s (List.replicate 16 0)).toArray 88))
  have hs0 : w.heap.size + 1 + 1 < (((w.alloc (.cells (u8s K).toArray 22)).alloc (.cells (u8s N).toArray 68)).alloc (.cells (u8s (List.replicate 16 0)).toArray 88)).heap.size := by simp only [asz]; omega
  generalize ((w.alloc (.cells (u8s K).toArray 22)).alloc (.cells (u8s N).toArray 68)).alloc (.cells (u8s (List.replicate 16 0)).toArray 88) = w0 at h4 h5 h8 G0 hs0 ⊢
  obtain ⟨g8, hg8⟩ : ∃ g, g = w.heap.size + 1 + 1 := ⟨_, rfl⟩
  rw [← hg8] at h8 hs0
  simp only [← hg8]
  have HG8 := Lib.hid hg8
  clear hg8
  generalize w.heap.size + 1 = g5 at h5 ⊢
  have hr0 := G0.rd hr
  have hb0 := G0.rd hb
  go_upto_region 2 with first
    | (refine wpList_load_mid rfl 22 (.tmp 4) rfl w.heap.size 0 rfl (u8s K) _ h4.range Tryd.underlying22 rfl iK ?_)
    | (refine wpList_load_mid rfl 68 (.tmp 5) rfl g5 0 rfl (u8s N) _ h5.range Tryd.underlying68 rfl iN ?_)
    | (go_at_call 51; refine (HB.out _).mono ?_; rintro e w1 ⟨rfl, hB1⟩)
    | (refine wpList_new rfl 103 (.tmp 9) (.tmp 13) rfl _ (u8s bk) rfl rfl rfl (by simp only [u8s_length, hbl]; rfl) (infoB64 bk hbl) (u8s_oneCell _) ?_; intro w3 h9 hG3)
  have G3 : Gr w0 w3 := Gr.trans hB1 hG3
  have hr3 := G3.rd hr0
  have hb3 := G3.rd hb0
  have h83 := h8.gr G3
  have hs3 : g8 < w3.heap.size := Nat.lt_of_lt_of_le hs0 G3.size
  have hB3 : Below w.heap.size w w3 := Below.trans G0 (Below.mono G3 G0.size)
  generalize w1.heap.size = g9 at h9 ⊢
  clear hB1 hG3 G3 hr0 hb0 h8 hs0 G0 h4 h5 iK iN
  have HL : Hid (∀ w (x : Nat), x < 18446744073709551616 → Calls Tryd.prog 49 #[.int .u64 (x : Int), .int .i64 8] w fun e w' => ∃ v, e = .returned v ∧ w'.ownsRow w.heap.size 5 1 v 8 (u8s (leBytes 8 x)) ∧ Below w.heap.size w w') := fun w x hx => putLow_any x hx 8 w
  have HM : Hid (padA W ++ padA C ++ leBytes 8 n ++ leBytes 8 m = overL W C) := HO
  obtain ⟨np, hnp⟩ : ∃ np, np = (padA W).length := ⟨_, rfl⟩
  obtain ⟨nq, hnq⟩ : ∃ nq, nq = (padA C).length := ⟨_, rfl⟩
  have hp1 := apad_any A n c W (by omega) w3 hr3
  have hp2 := fun w hb => apad_any B m d C (by omega) w hb
  rw [← hnp] at hp1
  rw [← hnq] at hp2
  have HP2 := Lib.hid hp2
  have hnp2 : np ≤ 100015 := by omega
  have hnq2 : nq ≤ 100015 := by omega
  clear hp2 hnp hnq hpW hpC hWl hCl HO
  go_wp2_with fail
  refine hp1.mono ?_
  rintro e w4 ⟨v4, rfl, ho4, hB4⟩
  obtain ⟨A4, c4, rfl, hc4, _, hr4⟩ := own_form3 ho4
  clear hp1
  go_wp2_with fail
  refine (HP2.out w4 (hb3.below hB4)).mono ?_
  rintro e w5 ⟨v5, rfl, ho5, hB5⟩
  obtain ⟨A5, c5, rfl, hc5, _, hr5⟩ := own_form3 ho5
  have ho45 := Gr.own hB5 ho4
  have hb45 : Below w3.heap.size w3 w5 := hB4.trans (hB5.mono hB4.size)
  clear HP2 ho4 hr4 ho5
  go_wp2_with (at_builtin; go_must (refine wpList_app _ rfl (.tmp 15) (.tmp 17) 27 rfl w3.heap.size 5 i0 (.int .u8 0) 1 Tryd.underlying27 hi0 hz0 hz1 hz2 rfl (.slice A4 np c4) np _ rfl ho45 A5 nq c5 _ rfl hr5 (u8s_oneCell _) (by omega) (by unfold maxLen; omega) hb45.size ?_))
  intro v6 w6 hA6
  have ho6 := hA6.own
  have hb6 := hb45.trans (hA6.below ho45 hb45.size)
  obtain ⟨A6, c6, rfl, hc6, _, hr6⟩ := own_form3 ho6
  clear hA6 ho45 hb45 hr5 hB4 hB5 hr6
  have hn64 : ((n : Nat) : Int) < 18446744073709551616 := by omega
  have hm64 : ((m : Nat) : Int) < 18446744073709551616 := by omega
  go_simp
  go_wp2_with fail
  refine (HL.out w6 n (by omega)).mono ?_
  rintro e w7 ⟨v7, rfl, ho7, hB7⟩
  obtain ⟨A7, c7, rfl, _, _, hr7⟩ := own_form3 ho7
  have ho67 := Gr.own hB7 ho6
  have hb7 := hb6.trans (hB7.mono hb6.size)
  clear ho6 hb6 hB7 ho7
  go_wp2_with (at_builtin; go_must (refine wpList_app _ rfl (.tmp 19) (.tmp 23) 27 rfl w3.heap.size 5 i0 (.int .u8 0) 1 Tryd.underlying27 hi0 hz0 hz1 hz2 rfl (.slice A6 (np + nq) c6) (np + nq) _ rfl ho67 A7 8 c7 _ rfl hr7 (u8s_oneCell _) (by omega) (by unfold maxLen; omega) hb7.size ?_))
  intro v8 w8 hA8
  have ho8 := hA8.own
  have hb8 := hb7.trans (hA8.below ho67 hb7.size)
  obtain ⟨A8, c8, rfl, hc8, _, hr8⟩ := own_form3 ho8
  clear hA8 ho67 hb7 hr7 hr8
  go_simp
  go_wp2_with fail
  refine (HL.out w8 m (by omega)).mono ?_
  rintro e w9 ⟨v9, rfl, ho9, hB9⟩
  obtain ⟨A9, c9, rfl, _, _, hr9⟩ := own_form3 ho9
  have ho89 := Gr.own hB9 ho8
  have hb9 := hb8.trans (hB9.mono hb8.size)
  clear ho8 hb8 hB9 ho9
  go_wp2_with (at_builtin; go_must (refine wpList_app _ rfl (.tmp 25) (.tmp 29) 27 rfl w3.heap.size 5 i0 (.int .u8 0) 1 Tryd.underlying27 hi0 hz0 hz1 hz2 rfl (.slice A8 (np + nq + 8) c8) (np + nq + 8) _ rfl ho89 A9 8 c9 _ rfl hr9 (u8s_oneCell _) (by omega) (by unfold maxLen; omega) hb9.size ?_))
  intro v10 w10 hA10
  have ho10 := hA10.own
  have hb10 := hb9.trans (hA10.below ho89 hb9.size)
  obtain ⟨A10, c10, rfl, hc10, _, hr10⟩ := own_form3 ho10
  simp only [← u8s_append, ← List.append_assoc] at hr10
  rw [HM.out] at hr10
  have h810 := h83.below hb10 hs3
  have h910 := h9.gr hb10
  have hB10 := hB3.trans (hb10.mono hB3.size)
  have hrg : w10.rangeAt g9 0 (u8s (bk.take 32)) := fun j v hj => h910.range j v (by
    rw [← u8s_take, List.getElem?_take] at hj
    split at hj
    · exact hj
    · simp at hj)
  have hb32 : (bk.take 32).length = 32 := by rw [List.length_take, hbl]; rfl
  have hcut := fun w => run_acut_h (P := Tryd.prog) Tryd.underlying103 (by kernel_rfl) g9 32 (by omega) 32 rfl w
  have ha := fun w => run_arrAt (P := Tryd.prog) Tryd.underlying22 (A := some ⟨g9, 0, none⟩) (c := 64) (Nat.le_refl 32) w
  have hT10 := HT.out w10 A10 (np + nq + 8 + 8) c10 hc10 hr10
  clear hA10 ho89 hb9 hr9 ho10 hn64 hm64 h83 h9 HL HT HB hb10
  go_simp
  go_wp2_with first
    | (refine wpList_load_mid rfl 22 (.tmp 32) rfl g9 0 rfl (u8s (bk.take 32)) _ hrg Tryd.underlying22 rfl (info22 _ hb32) ?_)
    | (go_at_call 54; refine hT10.mono ?_; rintro e w11 ⟨rfl, hB11⟩)
    | (refine wpList_put (h810.gr hB11) rfl 88 (.tmp 8) (.tmp 35) rfl (u8s T) rfl rfl (by simp [hTl]) (info16 T hTl) (u8s_oneCell _) ?_; intro w12 h12 hB12 _)
  refine bodyPost_ret (results_cell_row rfl _ _ g8 _ _ _ _ rfl h12 Tryd.underlying88 rfl (by have := info16 T hTl; simpa using this)) rfl ?_
  have hB13 := hB10.trans (hB11.mono hB10.size)
  exact ⟨rfl, hB13.trans (hB12.mono (by have := HG8.out; omega))⟩
end Go.Proofs.YtnmhfomnlnlflaaDoor
/- The walks of the reference's tag, of its Seal and its Open. No condition. -/
namespace Go.Proofs.YtnmhfomnlnlflaaDoor
open Go.RowKit
theorem run_cutS_h {P : Program} {T : TypeId} (hT : P.underlying T = some .string) (l : List UInt8) (hi : Nat) (a : Int) (ha : a = hi) (h2 : hi ≤ l.length) (w : World) :
    (Instr.slice T (.string ⟨l.toArray⟩) none (some (.int .i64 a)) none).run P w = .ok (.string ⟨(l.take hi).toArray⟩) w := by
  subst ha
  have hs : (⟨l.toArray⟩ : ByteArray).size = l.length := by simp [ByteArray.size]
  rw [run_slice_string_h w T _ hT _ _ (by omega) (by rw [hs]; omega), extract_list]
  simp only [Int.toNat_natCast, Nat.sub_zero, List.drop_zero]
theorem str_size (l : List UInt8) : (⟨l.toArray⟩ : ByteArray).size = l.length := rfl
set_option maxRecDepth 100000 in
set_option maxHeartbeats 4000000 in
theorem rTag_any (K : List UInt8) (hK : K.length = 32) (N : List UInt8) (hN : N.length = 12) (W C : List UInt8) (hW : W.length ≤ 100000) (hC : C.length ≤ 100000) (w : World) :
    Calls Tryd.prog 62 #[.string ⟨K.toArray⟩, .string ⟨N.toArray⟩, .string ⟨W.toArray⟩, .string ⟨C.toArray⟩] w fun e w' => e = .returned (.string ⟨(aTag K N W C).toArray⟩) ∧ Below w.heap.size w w' := by
  have hpW := padA_le W
  have hpC := padA_le C
  obtain ⟨bk, hbk⟩ : ∃ bk, bk = blockL K 0 N := ⟨_, rfl⟩
  have hbl : bk.length = 64 := by rw [hbk]; simp
  obtain ⟨k, hk⟩ : ∃ k : ByteArray, k = ⟨K.toArray⟩ := ⟨_, rfl⟩
  obtain ⟨nn, hnn⟩ : ∃ k : ByteArray, k = ⟨N.toArray⟩ := ⟨_, rfl⟩
  obtain ⟨x, hx⟩ : ∃ k : ByteArray, k = ⟨W.toArray⟩ := ⟨_, rfl⟩
  obtain ⟨y, hy⟩ : ∃ k : ByteArray, k = ⟨C.toArray⟩ := ⟨_, rfl⟩
  obtain ⟨px, hpx⟩ : ∃ k : ByteArray, k = ⟨(padA W).toArray⟩ := ⟨_, rfl⟩
  obtain ⟨py, hpy⟩ : ∃ k : ByteArray, k = ⟨(padA C).toArray⟩ := ⟨_, rfl⟩
  obtain ⟨lx, hlx⟩ : ∃ k : ByteArray, k = ⟨(leBytes 8 W.length).toArray⟩ := ⟨_, rfl⟩
  obtain ⟨ly, hly⟩ : ∃ k : ByteArray, k = ⟨(leBytes 8 C.length).toArray⟩ := ⟨_, rfl⟩
  obtain ⟨q, hq⟩ : ∃ k : ByteArray, k = ⟨(bk.take 32).toArray⟩ := ⟨_, rfl⟩
  obtain ⟨b, hb⟩ : ∃ k : ByteArray, k = ⟨bk.toArray⟩ := ⟨_, rfl⟩
  have sx : x.size = W.length := by rw [hx]; rfl
  have sy : y.size = C.length := by rw [hy]; rfl
  have spx : px.size = (padA W).length := by rw [hpx]; rfl
  have spy : py.size = (padA C).length := by rw [hpy]; rfl
  have slx : lx.size = 8 := by rw [hlx, str_size]; simp
  have sly : ly.size = 8 := by rw [hly, str_size]; simp
  have HB : Hid (∀ w, Calls Tryd.prog 78 #[.string k, .int .u32 0, .string nn] w fun e w' => e = .returned (.string b) ∧ Below w.heap.size w w') := by
    intro w
    rw [hb, hbk, hk, hnn]
    exact refBlock_any K hK 0 N hN w
  have HX : Hid (∀ w, Calls Tryd.prog 81 #[.string x] w fun e w' => e = .returned (.string px) ∧ Below w.heap.size w w') := by
    intro w
    rw [hx, hpx]
    exact rpad_any W (by omega) w
  have HY : Hid (∀ w, Calls Tryd.prog 81 #[.string y] w fun e w' => e = .returned (.string py) ∧ Below w.heap.size w w') := by
    intro w
    rw [hy, hpy]
    exact rpad_any C (by omega) w
  have HLX : Hid (∀ w, Calls Tryd.prog 57 #[.int .u64 (x.size : Int), .int .i64 8, .bool false] w fun e w' => e = .returned (.string lx) ∧ Below w.heap.size w w') := by
    intro w
    rw [hlx, sx]
    exact refPut_any W.length (by omega) 8 false w
  have HLY : Hid (∀ w, Calls Tryd.prog 57 #[.int .u64 (y.size : Int), .int .i64 8, .bool false] w fun e w' => e = .returned (.string ly) ∧ Below w.heap.size w w') := by
    intro w
    rw [hly, sy]
    exact refPut_any C.length (by omega) 8 false w
  have HT : Hid (∀ w, Calls Tryd.prog 80 #[.string q, .string (px ++ py ++ lx ++ ly)] w fun e w' => e = .returned (.string ⟨(aTag K N W C).toArray⟩) ∧ Below w.heap.size w w') := by
    intro w
    rw [hq, hpx, hpy, hlx, hly, str_append, str_append, str_append, aTag, ← hbk]
    exact refTag_any (bk.take 32) (by simp [hbl]) (overL W C) (by have := overL_le W C; omega) w
  have HC : Hid (∀ w, (Instr.slice 9 (.string b) none (some (.int .i64 32)) none).run Tryd.prog w = .ok (.string q) w) := by
    intro w
    rw [hb, hq]
    exact run_cutS_h Tryd.underlying9 bk 32 32 rfl (by omega) w
  have n1 : ¬ 9223372036854775807 < px.size + py.size := by omega
  have n2 : ¬ 9223372036854775807 < px.size + py.size + lx.size := by omega
  have n3 : ¬ 9223372036854775807 < px.size + py.size + lx.size + ly.size := by omega
  have n4 : (x.size : Int) < 18446744073709551616 := by omega
  have n5 : (y.size : Int) < 18446744073709551616 := by omega
  rw [← hk, ← hnn, ← hx, ← hy]
  obtain ⟨r, hr⟩ : ∃ r : ByteArray, r = ⟨(aTag K N W C).toArray⟩ := ⟨_, rfl⟩
  rw [← hr] at HT ⊢
  clear hr hk hnn hx hy hpx hpy hlx hly hq hb hbk sx sy spx spy slx sly hpW hpC hW hC
  have hcut := HC.out
  go_enter Tryd.func62, Tryd.ntmps62
  go_wp2_with fail
  refine (HB.out w).mono ?_
  rintro e w1 ⟨rfl, hB1⟩
  go_wp2_with fail
  refine (HX.out w1).mono ?_
  rintro e w2 ⟨rfl, hB2⟩
  replace hB2 := hB1.trans (hB2.mono hB1.size)
  go_wp2_with fail
  refine (HY.out w2).mono ?_
  rintro e w3 ⟨rfl, hB3⟩
  replace hB3 := hB2.trans (hB3.mono hB2.size)
  go_wp2_with fail
  refine (HLX.out w3).mono ?_
  rintro e w4 ⟨rfl, hB4⟩
  replace hB4 := hB3.trans (hB4.mono hB3.size)
  go_wp2_with fail
  refine (HLY.out w4).mono ?_
  rintro e w5 ⟨rfl, hB5⟩
  replace hB5 := hB4.trans (hB5.mono hB4.size)
  go_wp2_with fail
  refine (HT.out w5).mono ?_
  rintro e w6 ⟨rfl, hB6⟩
  replace hB6 := hB5.trans (hB6.mono hB5.size)
  go_wp2_with fail
  go_ret
  exact ⟨rfl, hB6⟩
end Go.Proofs.YtnmhfomnlnlflaaDoor
/- The walks of aead's Seal and of its reference's. No condition. -/
namespace Go.Proofs.YtnmhfomnlnlflaaDoor
open Go.RowKit
set_option maxRecDepth 100000 in
set_option maxHeartbeats 4000000 in
theorem seal_any (K : List UInt8) (hK : K.length = 32) (N : List UInt8) (hN : N.length = 12) (A : Option Addr) (n c : Nat) (W : List UInt8) (B : Option Addr) (m d : Nat) (b : List UInt8) (hn : n ≤ 90000) (hm : m ≤ 90000) (hmd : m ≤ d) (w : World) (hr : Rd w A n (u8s W)) (hb : Rd w B m (u8s b)) :
    Calls Tryd.prog 26 #[.agg (u8s K).toArray, .agg (u8s N).toArray, .slice A n c, .slice B m d] w fun e w' => ∃ v, e = .returned v ∧ w'.ownsRow w.heap.size 5 1 v (m + 16) (u8s (sealL K N W b)) ∧ Below w.heap.size w w' := by
  obtain ⟨i0, hi0, hz0, hz1, hz2⟩ := info_parts Tryd.info5
  have hbl : b.length = m := by simpa using hb.1
  obtain ⟨C, hC⟩ : ∃ C, C = hideL K N b := ⟨_, rfl⟩
  have hCl : C.length = m := by rw [hC, hideL_length, hbl]
  have HS : Hid (∀ w, Rd w B m (u8s b) → Calls Tryd.prog 34 #[.agg (u8s K).toArray, .int .u32 1, .agg (u8s N).toArray, .slice B m d] w fun e w' => ∃ v, e = .returned v ∧ w'.ownsRow w.heap.size 5 1 v m (u8s C) ∧ Below w.heap.size w w') := by
    intro w hb
    rw [hC]
    exact stream_any K hK 1 N hN B m d b (by omega) hmd w hb
  obtain ⟨T, hT⟩ : ∃ T, T = aTag K N W C := ⟨_, rfl⟩
  have hTl : T.length = 16 := by rw [hT]; simp
  have HT : Hid (∀ w B d, Rd w A n (u8s W) → Rd w B m (u8s C) → Calls Tryd.prog 37 #[.agg (u8s K).toArray, .agg (u8s N).toArray, .slice A n c, .slice B m d] w fun e w' => e = .returned (.agg (u8s T).toArray) ∧ Below w.heap.size w w') := by
    intro w B d hr hb
    rw [hT]
    exact aTag_any K hK N hN A n c W B m d C (by omega) (by omega) w hr hb
  have HE : Hid (u8s C ++ u8s T = u8s (sealL K N W b)) := by
    show _ = _
    rw [sealL, ← hC, ← hT, u8s_append]
  clear hT hC
  have iK := info22 K hK
  have iN := info24 N hN
  have h4 : Arr ((w.alloc (.cells (u8s K).toArray 22)).alloc (.cells (u8s N).toArray 68)) w.heap.size 22 (u8s K) := Arr.alloc (Arr.newAt rfl rfl) _
  have h5 : Arr ((w.alloc (.cells (u8s K).toArray 22)).alloc (.cells (u8s N).toArray 68)) (w.heap.size + 1) 68 (u8s N) := Arr.newAt (asz _ _) rfl
  have G0 : Gr w ((w.alloc (.cells (u8s K).toArray 22)).alloc (.cells (u8s N).toArray 68)) := (Gr.alloc _ _).trans (Gr.alloc _ _)
  go_enter Tryd.func26, Tryd.ntmps26
  go_upto_region 1 with fail
  generalize (w.alloc (.cells (u8s K).toArray 22)).alloc (.cells (u8s N).toArray 68) = w0 at h4 h5 G0 ⊢
  generalize w.heap.size + 1 = g5 at h5 ⊢
  obtain ⟨g4, hg4⟩ : ∃ g, g = w.heap.size := ⟨_, rfl⟩
  rw [← hg4] at h4
  simp only [← hg4]
  have HG4 := Lib.hid hg4
  clear hg4
  have hr0 := G0.rd hr
  have hb0 := G0.rd hb
  go_wp2_with first
    | (refine wpList_load_mid rfl 22 (.tmp 4) rfl g4 0 rfl (u8s K) _ h4.range Tryd.underlying22 rfl iK ?_)
    | (refine wpList_load_mid rfl 68 (.tmp 5) rfl g5 0 rfl (u8s N) _ h5.range Tryd.underlying68 rfl iN ?_)
  refine (HS.out w0 hb0).mono ?_
  rintro e w1 ⟨v1, rfl, ho1, hB1⟩
  obtain ⟨A1, c1, rfl, hc1, _, hr1⟩ := own_form3 ho1
  have h41 := h4.gr hB1
  have h51 := h5.gr hB1
  have hr01 : Rd w1 A n (u8s W) := hr0.below hB1
  have hs1 := hB1.size
  clear h4 h5 hr0 hb0
  go_wp2_with first
    | (refine wpList_load_mid rfl 22 (.tmp 4) rfl g4 0 rfl (u8s K) _ h41.range Tryd.underlying22 rfl iK ?_)
    | (refine wpList_load_mid rfl 68 (.tmp 5) rfl g5 0 rfl (u8s N) _ h51.range Tryd.underlying68 rfl iN ?_)
  refine (HT.out w1 A1 c1 hr01 hr1).mono ?_
  rintro e w2 ⟨rfl, hB2⟩
  clear h41 h51 hr01 hr1
  go_upto_region 3 with (refine wpList_new rfl 88 (.tmp 10) (.tmp 19) rfl _ (u8s T) rfl rfl rfl (by simp only [u8s_length, hTl]; rfl) (info16 T hTl) (u8s_oneCell _) ?_; intro w3 h10 hG3)
  have G3 : Gr w1 w3 := Gr.trans hB2 hG3
  have ho3 := Gr.own G3 ho1
  have hB3 : Below w0.heap.size w0 w3 := hB1.trans (Below.mono G3 hs1)
  generalize w2.heap.size = g10 at h10 ⊢
  have hr10 := h10.rdAll hTl
  have hcut := fun w => run_cutAll (P := Tryd.prog) Tryd.underlying88 (by kernel_rfl) g10 w
  clear hB2 hG3 G3 ho1 hB1 h10 HT HS
  go_wp2_with (at_builtin; go_must (refine wpList_app _ rfl (.tmp 20) (.tmp 21) 27 rfl w0.heap.size 5 i0 (.int .u8 0) 1 Tryd.underlying27 hi0 hz0 hz1 hz2 rfl (.slice A1 m c1) m _ rfl ho3 (some ⟨g10, 0, none⟩) 16 16 _ rfl hr10 (u8s_oneCell _) (by omega) (by unfold maxLen; omega) hB3.size ?_))
  intro v4 w4 hA4
  have ho4 := hA4.own
  have hB4 := hB3.trans (hA4.below ho3 hB3.size)
  have hB5 : Below w.heap.size w w4 := Below.trans G0 (Below.mono hB4 G0.size)
  rw [HE.out] at ho4
  clear hA4 hcut
  go_simp
  go_wp2_with fail
  go_ret
  rw [HG4.out] at *
  exact ⟨_, rfl, own_base ho4 G0.size, hB5⟩
set_option maxRecDepth 100000 in
set_option maxHeartbeats 4000000 in
theorem rSeal_any (K : List UInt8) (hK : K.length = 32) (N : List UInt8) (hN : N.length = 12) (W b : List UInt8) (hW : W.length ≤ 90000) (hb : b.length ≤ 90000) (w : World) :
    Calls Tryd.prog 43 #[.string ⟨K.toArray⟩, .string ⟨N.toArray⟩, .string ⟨W.toArray⟩, .string ⟨b.toArray⟩] w fun e w' => e = .returned (.string ⟨(sealL K N W b).toArray⟩) ∧ Below w.heap.size w w' := by
  obtain ⟨C, hC⟩ : ∃ C, C = hideL K N b := ⟨_, rfl⟩
  have hCl : C.length = b.length := by rw [hC, hideL_length]
  obtain ⟨k, hk⟩ : ∃ k : ByteArray, k = ⟨K.toArray⟩ := ⟨_, rfl⟩
  obtain ⟨nn, hnn⟩ : ∃ k : ByteArray, k = ⟨N.toArray⟩ := ⟨_, rfl⟩
  obtain ⟨x, hx⟩ : ∃ k : ByteArray, k = ⟨W.toArray⟩ := ⟨_, rfl⟩
  obtain ⟨y, hy⟩ : ∃ k : ByteArray, k = ⟨b.toArray⟩ := ⟨_, rfl⟩
  obtain ⟨h, hh⟩ : ∃ k : ByteArray, k = ⟨C.toArray⟩ := ⟨_, rfl⟩
  obtain ⟨t, ht⟩ : ∃ k : ByteArray, k = ⟨(aTag K N W C).toArray⟩ := ⟨_, rfl⟩
  have HS : Hid (∀ w, Calls Tryd.prog 58 #[.string k, .int .u32 1, .string nn, .string y] w fun e w' => e = .returned (.string h) ∧ Below w.heap.size w w') := by
    intro w
    rw [hh, hk, hnn, hy, hC]
    exact refStream_any K hK 1 N hN b (by omega) w
  have HT : Hid (∀ w, Calls Tryd.prog 62 #[.string k, .string nn, .string x, .string h] w fun e w' => e = .returned (.string t) ∧ Below w.heap.size w w') := by
    intro w
    rw [hh, hk, hnn, hx, ht]
    exact rTag_any K hK N hN W C (by omega) (by omega) w
  have n1 : ¬ 9223372036854775807 < h.size + t.size := by
    rw [hh, ht, str_size, str_size, aTag_length]
    omega
  have HE : Hid (h ++ t = ⟨(sealL K N W b).toArray⟩) := by
    show _ = _
    rw [sealL, ← hC, hh, ht, str_append]
  rw [← hk, ← hnn, ← hx, ← hy]
  clear hk hnn hx hy hh ht hC hCl
  go_enter Tryd.func43, Tryd.ntmps43
  go_wp2_with fail
  refine (HS.out w).mono ?_
  rintro e w1 ⟨rfl, hB1⟩
  go_wp2_with fail
  refine (HT.out w1).mono ?_
  rintro e w2 ⟨rfl, hB2⟩
  replace hB2 := hB1.trans (hB2.mono hB1.size)
  go_wp2_with fail
  go_ret
  rw [HE.out]
  exact ⟨rfl, hB2⟩
end Go.Proofs.YtnmhfomnlnlflaaDoor
/- The walk of the vault's Seal. No condition. -/
namespace Go.Proofs.YtnmhfomnlnlflaaDoor
open Go.RowKit
set_option maxRecDepth 100000 in
set_option maxHeartbeats 4000000 in
theorem vseal_nil (e c k : Int) (x y : Value) (w : World) :
    Calls Tryd.prog 13 #[.pointer none, .int .i64 e, .int .i64 c, .int .i64 k, x, y] w fun r w' => r = .returned (.tuple #[.slice none 0 0, .int .i64 1]) ∧ Gr w w' := by
  go_enter Tryd.func13, Tryd.ntmps13
  go_wp2_with fail
  refine bodyPost_ret (results_tmp2 rfl _ _ _) rfl ?_
  exact ⟨rfl, Gr.refl _⟩
set_option maxRecDepth 100000 in
set_option maxHeartbeats 4000000 in
theorem vseal_bad (g : Nat) (e c k : Int) (h : ¬ Right e c k) (x y : Value) (w : World) :
    Calls Tryd.prog 13 #[.pointer (some ⟨g, 0, none⟩), .int .i64 e, .int .i64 c, .int .i64 k, x, y] w fun r w' => r = .returned (.tuple #[.slice none 0 0, .int .i64 1]) ∧ Gr w w' := by
  have HR := Lib.hid (right_no e c k h)
  go_enter Tryd.func13, Tryd.ntmps13
  go_wp2_with fail
  refine (HR.out w).mono ?_
  rintro r w1 ⟨rfl, hG1⟩
  go_wp2_with fail
  refine bodyPost_ret (results_tmp2 rfl _ _ _) rfl ?_
  exact ⟨rfl, hG1⟩
set_option maxRecDepth 100000 in
set_option maxHeartbeats 8000000 in
theorem vseal_spent {τ : Nat → Obj → Bool} {B : Nat} {w : World} {g b1 b2 b3 : Nat} {v : Vt} (hV : VIs τ B w g b1 b2 b3 v) (e c k : Nat) (hR : Right e c k) (hs : v.spent c k) (x y : Value) :
    Calls Tryd.prog 13 #[.pointer (some ⟨g, 0, none⟩), .int .i64 (e : Int), .int .i64 (c : Int), .int .i64 (k : Int), x, y] w fun r w' => r = .returned (.tuple #[.slice none 0 0, .int .i64 13]) ∧ Gr w w' := by
  have HR := Lib.hid (right_yes e c k hR)
  have hhit := useE_mem hs
  have hui : (Tryd.prog.info? 64).map (·.size) = some ([.int .i64 (c : Int), .int .i64 (k : Int)] : List Value).length := by kernel_rfl
  clear hs hR
  go_enter Tryd.func13, Tryd.ntmps13
  go_wp2_with fail
  refine (HR.out w).mono ?_
  rintro r w1 ⟨rfl, hG1⟩
  have hV1 := hV.gr hG1
  go_upto_region 4 with (refine wpList_new rfl 64 (.tmp 14) (.tmp 30) rfl _ [.int .i64 (c : Int), .int .i64 (k : Int)] rfl rfl rfl (by kernel_rfl) hui (by simp [Value.oneCell']) ?_; intro w2 h14 hG2)
  have hG12 := hG1.trans hG2
  have hV2 := hV1.gr hG2
  generalize w1.heap.size = g14 at h14 ⊢
  have c34 : w2.cell? ⟨g, 34, none⟩ = some (.map (some b2)) := hV2.cellN (i := 1) rfl
  have hM := hV2.used
  clear hV hV1 hG1 hG2
  refine wp_region_ssaL (by kernel_rfl) [IsV (.pointer (some ⟨g, 0, none⟩)), IsV (.pointer (some ⟨g, 0, none⟩)), IsV (.pointer (some ⟨g, 34, none⟩)), IsV (.map (some b2)), IsV (.agg #[.int .i64 (c : Int), .int .i64 (k : Int)]), IsV (.bool true)] (by kernel_rfl) ?_ ?_ ?_
  · intro φ hφ v w1 w2 h hg
    simp only [List.mem_cons, List.not_mem_nil, or_false] at hφ
    rcases hφ with rfl | rfl | rfl | rfl | rfl | rfl
    all_goals first | exact h | exact RdV.gr h hg
  · refine ⟨?_, ?_, ?_, ?_, ?_, ?_, trivial⟩
    · intro a1 w1 hG hF
      exact s_old rfl (wants0 rfl) (.tmp 0) (.inr rfl) (.pointer (some ⟨g, 0, none⟩)) (hF.ol 0 (by kernel_rfl)) rfl
    · intro a1 w1 hG hF
      obtain ⟨_, e31, rfl⟩ := hF.dp 0 31 (by kernel_rfl)
      exact s_is rfl (wants0 rfl) _ rfl (run_nil e31)
    · intro a1 w1 hG hF
      obtain ⟨_, e32, rfl⟩ := hF.dp 1 32 (by kernel_rfl)
      exact s_is rfl (wants0 rfl) _ rfl (run_field (o := 34) (k := 0) Tryd.underlying58 rfl rfl (by kernel_rfl) e32)
    · intro a1 w1 hG hF
      obtain ⟨_, e33, rfl⟩ := hF.dp 2 33 (by kernel_rfl)
      exact s_is rfl (wants0 rfl) _ rfl (run_load1B (.inr (.inl ⟨_, _, Tryd.underlying55⟩)) e33 (Gr.cell ((Gr.drew w2).trans hG) c34))
    · intro a1 w1 hG hF
      have e14 : a1.eval (.tmp 14) = .pointer (some ⟨g14, 0, none⟩) := hF.ol 14 (by kernel_rfl)
      exact s_is rfl (wants0 rfl) _ rfl (run_loadRow (cs := [.int .i64 (c : Int), .int .i64 (k : Int)]) Tryd.underlying64 rfl hui e14 (Arr.range (h14.gr ((Gr.drew w2).trans hG))))
    · intro a1 w1 hG hF
      obtain ⟨_, e34, rfl⟩ := hF.dp 3 34 (by kernel_rfl)
      obtain ⟨_, e35, rfl⟩ := hF.dp 4 35 (by kernel_rfl)
      exact s_is rfl (wants0 rfl) _ rfl (run_hit (hM.gr ((Gr.drew w2).trans hG)) keyedU Tryd.underlying55 e34 e35 hhit false)
  · intro vs w1 hG hf
    have z36 : vs 5 = .bool true := hf.2.2.2.2.2.1
    clear hf
    simp only [putAll, Nat.zero_add, Nat.reduceAdd, z36]
    go_simp
    go_wp2_with fail
    refine bodyPost_ret (results_tmp2 rfl _ _ _) rfl ?_
    exact ⟨rfl, hG12.trans ((Gr.drew _).trans hG)⟩
set_option maxRecDepth 100000 in
set_option maxHeartbeats 16000000 in
theorem vseal_real {τ : Nat → Obj → Bool} {B : Nat} {w : World} {g b1 b2 b3 : Nat} {v : Vt} (hV : VIs τ B w g b1 b2 b3 v) (hτ : ∀ k o, ownV b1 b2 b3 k o = true → τ k o = true) (hi : v.ideal = false) (e c k : Nat) (hR : Right e c k) (hs : ¬ v.spent c k)
    (A : Option Addr) (n cn : Nat) (wi : List UInt8) (D : Option Addr) (m dm : Nat) (b : List UInt8) (hn : n ≤ 900) (hm : m ≤ 900) (hmd : m ≤ dm) (hr : Rd w A n (u8s wi)) (hb : Rd w D m (u8s b)) (gw : Glob w) :
    Calls Tryd.prog 13 #[.pointer (some ⟨g, 0, none⟩), .int .i64 (e : Int), .int .i64 (c : Int), .int .i64 (k : Int), .slice A n cn, .slice D m dm] w fun r w' => ∃ x, r = .returned (.tuple #[x, .int .i64 0]) ∧ w'.ownsRow w.heap.size 5 1 x (m + 16) (u8s (v.out e c k wi b)) ∧ VIs τ B w' g b1 b2 b3 (v.put e c k wi b) ∧ Tn (ownV b1 b2 b3) B w w' := by
  have hX : v.out e c k wi b = sealL (sealKL v.key e) (nonceL c k) wi b := by rw [Vt.out, hi]; rfl
  obtain ⟨X, hXe⟩ : ∃ X, X = v.out e c k wi b := ⟨_, rfl⟩
  obtain ⟨KK, hKK⟩ : ∃ X, X = sealKL v.key e := ⟨_, rfl⟩
  have hKKl : KK.length = 32 := by rw [hKK]; simp
  obtain ⟨NN, hNN⟩ : ∃ X, X = nonceL c k := ⟨_, rfl⟩
  have hNNl : NN.length = 12 := by rw [hNN]; simp
  have HK : Hid (∀ w, VK w g v.key → Glob w → Calls Tryd.prog 25 #[.pointer (some ⟨g, 0, none⟩), .int .i64 (e : Int), .int .i64 (c : Int), .int .i64 (k : Int)] w fun r w' => r = .returned (.tuple #[.agg (u8s KK).toArray, .agg (u8s NN).toArray, .int .i64 0]) ∧ Gr w w') := by
    intro w h1 h2
    rw [hKK, hNN]
    exact keys_any h1 e c k hR h2
  have HSL : Hid (∀ w, Rd w A n (u8s wi) → Rd w D m (u8s b) → Calls Tryd.prog 26 #[.agg (u8s KK).toArray, .agg (u8s NN).toArray, .slice A n cn, .slice D m dm] w fun e w' => ∃ v, e = .returned v ∧ w'.ownsRow w.heap.size 5 1 v (m + 16) (u8s X) ∧ Below w.heap.size w w') := by
    intro w h1 h2
    rw [hXe, hX, ← hKK, ← hNN]
    exact seal_any KK hKKl NN hNNl A n cn wi D m dm b (by omega) (by omega) hmd w h1 h2
  rw [← hXe]
  clear hX hXe hKK hNN
  have HR := Lib.hid (right_yes e c k hR)
  have HRt := Lib.hid hR
  obtain ⟨r1, r2, r3, r4, r5, r6⟩ := hR
  have hno := useE_no hs
  obtain ⟨ku, hku⟩ := keyOf_use c k (by omega) (by omega)
  have hui : (Tryd.prog.info? 64).map (·.size) = some ([.int .i64 (c : Int), .int .i64 (k : Int)] : List Value).length := by kernel_rfl
  have hzb : ∀ w, (zeroValue 4).run Tryd.prog w = .ok (.bool false) w := fun w => by kernel_rfl
  have hKl := hV.len
  have hwl : wi.length = n := by simpa using hr.1
  have hbl : b.length = m := by simpa using hb.1
  have hlt2 := hV.used.lt
  have hlt3 : b3 < w.heap.size := by obtain ⟨T, h1, _⟩ := hV.table; exact h1.lt
  have h12 := hV.lt1
  have h23 := hV.lt2
  have e20 : (e : Int) ≤ 1048576 := r2
  have c16 : (c : Int) ≤ 16 := r4
  have k62 : (k : Int) ≤ 4611686018427387904 := r6
  clear r1 r3 r5
  go_enter Tryd.func13, Tryd.ntmps13
  go_wp2_with fail
  refine (HR.out w).mono ?_
  rintro r w1 ⟨rfl, hG1⟩
  have hV1 := hV.gr hG1
  go_upto_region 4 with (refine wpList_new rfl 64 (.tmp 14) (.tmp 30) rfl _ [.int .i64 (c : Int), .int .i64 (k : Int)] rfl rfl rfl (by kernel_rfl) hui (by simp [Value.oneCell']) ?_; intro w2 h14 hG2)
  have hG12 := hG1.trans hG2
  have hV2 := hV1.gr hG2
  generalize w1.heap.size = g14 at h14 ⊢
  have c34 : w2.cell? ⟨g, 34, none⟩ = some (.map (some b2)) := hV2.cellN (i := 1) rfl
  have hM := hV2.used
  clear hV1 hG1 hG2
  refine wp_region_ssaL (by kernel_rfl) [IsV (.pointer (some ⟨g, 0, none⟩)), IsV (.pointer (some ⟨g, 0, none⟩)), IsV (.pointer (some ⟨g, 34, none⟩)), IsV (.map (some b2)), IsV (.agg #[.int .i64 (c : Int), .int .i64 (k : Int)]), IsV (.bool false)] (by kernel_rfl) ?_ ?_ ?_
  · intro φ hφ v w1 w2 h hg
    simp only [List.mem_cons, List.not_mem_nil, or_false] at hφ
    rcases hφ with rfl | rfl | rfl | rfl | rfl | rfl
    all_goals first | exact h | exact RdV.gr h hg
  · refine ⟨?_, ?_, ?_, ?_, ?_, ?_, trivial⟩
    · intro a1 w1 hG hF
      exact s_old rfl (wants0 rfl) (.tmp 0) (.inr rfl) (.pointer (some ⟨g, 0, none⟩)) (hF.ol 0 (by kernel_rfl)) rfl
    · intro a1 w1 hG hF
      obtain ⟨_, e31, rfl⟩ := hF.dp 0 31 (by kernel_rfl)
      exact s_is rfl (wants0 rfl) _ rfl (run_nil e31)
    · intro a1 w1 hG hF
      obtain ⟨_, e32, rfl⟩ := hF.dp 1 32 (by kernel_rfl)
      exact s_is rfl (wants0 rfl) _ rfl (run_field (o := 34) (k := 0) Tryd.underlying58 rfl rfl (by kernel_rfl) e32)
    · intro a1 w1 hG hF
      obtain ⟨_, e33, rfl⟩ := hF.dp 2 33 (by kernel_rfl)
      exact s_is rfl (wants0 rfl) _ rfl (run_load1B (.inr (.inl ⟨_, _, Tryd.underlying55⟩)) e33 (Gr.cell ((Gr.drew w2).trans hG) c34))
    · intro a1 w1 hG hF
      have e14 : a1.eval (.tmp 14) = .pointer (some ⟨g14, 0, none⟩) := hF.ol 14 (by kernel_rfl)
      exact s_is rfl (wants0 rfl) _ rfl (run_loadRow (cs := [.int .i64 (c : Int), .int .i64 (k : Int)]) Tryd.underlying64 rfl hui e14 (Arr.range (h14.gr ((Gr.drew w2).trans hG))))
    · intro a1 w1 hG hF
      obtain ⟨_, e34, rfl⟩ := hF.dp 3 34 (by kernel_rfl)
      obtain ⟨_, e35, rfl⟩ := hF.dp 4 35 (by kernel_rfl)
      exact s_is rfl (wants0 rfl) _ rfl (run_miss (hM.gr ((Gr.drew w2).trans hG)) keyedU Tryd.underlying55 e34 e35 hku hno (hzb _) false)
  · intro vs w1 hG hf
    have z36 : vs 5 = .bool false := hf.2.2.2.2.2.1
    clear hf
    simp only [putAll, Nat.zero_add, Nat.reduceAdd, z36]
    have hG3 := hG12.trans ((Gr.drew _).trans hG)
    have h143 := h14.gr ((Gr.drew _).trans hG)
    generalize w1 = w3 at hG3 h143 ⊢
    have hV3 := hV.gr hG3
    clear hG hG12 h14 hV2 c34 hM
    have c34 : w3.cell? ⟨g, 34, none⟩ = some (.map (some b2)) := hV3.cellN (i := 1) rfl
    have hM := hV3.used
    go_simp
    go_upto_region 6 with fail
    refine wp_region_cut (by kernel_rfl) [IsV (.pointer (some ⟨g, 0, none⟩)), IsV (.pointer (some ⟨g, 0, none⟩)), IsV (.pointer (some ⟨g, 34, none⟩)), IsV (.map (some b2)), IsV (.agg #[.int .i64 (c : Int), .int .i64 (k : Int)])] 5 (by decide) (by kernel_rfl) (by kernel_rfl) (by kernel_rfl) ?_ ?_ ?_
    · intro φ hφ v w1 w2 h hg
      simp only [List.mem_cons, List.not_mem_nil, or_false] at hφ
      rcases hφ with rfl | rfl | rfl | rfl | rfl
      all_goals first | exact h | exact RdV.gr h hg
    · refine ⟨?_, ?_, ?_, ?_, ?_, trivial⟩
      · intro a1 w1 hG hF
        exact s_old rfl (wants0 rfl) (.tmp 0) (.inr rfl) (.pointer (some ⟨g, 0, none⟩)) (hF.ol 0 (by kernel_rfl)) rfl
      · intro a1 w1 hG hF
        obtain ⟨_, e37, rfl⟩ := hF.dp 0 37 (by kernel_rfl)
        exact s_is rfl (wants0 rfl) _ rfl (run_nil e37)
      · intro a1 w1 hG hF
        obtain ⟨_, e38, rfl⟩ := hF.dp 1 38 (by kernel_rfl)
        exact s_is rfl (wants0 rfl) _ rfl (run_field (o := 34) (k := 0) Tryd.underlying58 rfl rfl (by kernel_rfl) e38)
      · intro a1 w1 hG hF
        obtain ⟨_, e39, rfl⟩ := hF.dp 2 39 (by kernel_rfl)
        exact s_is rfl (wants0 rfl) _ rfl (run_load1B (.inr (.inl ⟨_, _, Tryd.underlying55⟩)) e39 (Gr.cell ((Gr.drew w3).trans hG) c34))
      · intro a1 w1 hG hF
        have e14 : a1.eval (.tmp 14) = .pointer (some ⟨g14, 0, none⟩) := hF.ol 14 (by kernel_rfl)
        exact s_is rfl (wants0 rfl) _ rfl (run_loadRow (cs := [.int .i64 (c : Int), .int .i64 (k : Int)]) Tryd.underlying64 rfl hui e14 (Arr.range (h143.gr ((Gr.drew w3).trans hG))))
    · intro vs w1 hG hf
      have z40 : vs 3 = .map (some b2) := hf.2.2.2.1
      have z41 : vs 4 = .agg #[.int .i64 (c : Int), .int .i64 (k : Int)] := hf.2.2.2.2.1
      clear hf
      simp only [List.take_succ_cons, List.take_zero, List.drop_succ_cons, List.drop_zero, putAll, Nat.zero_add, Nat.reduceAdd, z40, z41]
      have hG4 := hG3.trans ((Gr.drew _).trans hG)
      have h144 := h143.gr ((Gr.drew _).trans hG)
      have hV4 := hV.gr hG4
      have hM4 := hV4.used
      refine wpList_add rfl (.tmp 40) (.tmp 41) (.const (.bool true)) rfl hM4 keyedU Tryd.underlying55 (key := useV c k) (val := .bool true) (by kernel_rfl) (by kernel_rfl) rfl hku hno ?_
      intro o' w5 hw5 hM5
      have hE5 : Ex [b2, b3] w w5 := (Ex.of_gr hG4).trans (by rw [hw5]; exact Ex.set hM4 (by simp))
      have h145 : Arr w5 g14 64 [.int .i64 (c : Int), .int .i64 (k : Int)] := h144.ex (S := [b2]) (by rw [hw5]; exact Ex.set hM4 (by simp)) (by simpa using h144.ne_map hM4)
      have hA5 := hV4.arr.ex (S := [b2]) (w' := w5) (by rw [hw5]; exact Ex.set hM4 (by simp)) (by simpa using hV4.arr.ne_map hM4)
      have hE45 : Ex [b2] w1 w5 := by rw [hw5]; exact Ex.set hM4 (by simp)
      clear hw5 hV4 hM c34 h144 hG hV3 h143
      have c0 := va_cell0 hA5
      have hvk : VK w5 g v.key := ⟨hKl, _, _, _, _, hA5⟩
      unfold wpList
      go_simp
      rw [hi] at c0
      have gw5 : Glob w5 := (gw.gr hG4).ex hE45 hM4
      have hr5 : Rd w5 A n (u8s wi) := (hG4.rd hr).ex hE45 hM4
      have hb5 : Rd w5 D m (u8s b) := (hG4.rd hb).ex hE45 hM4
      go_wp2_with fail
      refine (HK.out w5 hvk gw5).mono ?_
      rintro r w6 ⟨rfl, hG6⟩
      have hr6 := hG6.rd hr5
      have hb6 := hG6.rd hb5
      have hz1 : Arr ((w6.alloc (.cells (u8s (List.replicate 32 0)).toArray 22)).alloc (.cells (u8s (List.replicate 12 0)).toArray 68)) w6.heap.size 22 (u8s (List.replicate 32 0)) := Arr.gr (Arr.newAt rfl rfl) (Gr.alloc _ _)
      have hz2 : Arr ((w6.alloc (.cells (u8s (List.replicate 32 0)).toArray 22)).alloc (.cells (u8s (List.replicate 12 0)).toArray 68)) (w6.heap.size + 1) 68 (u8s (List.replicate 12 0)) := Arr.newAt (by simp only [asz]) rfl
      have hGz : Gr w6 ((w6.alloc (.cells (u8s (List.replicate 32 0)).toArray 22)).alloc (.cells (u8s (List.replicate 12 0)).toArray 68)) := (Gr.alloc _ _).trans (Gr.alloc _ _)
      go_wp2_with first
        | (refine wpList_put hz1 rfl 22 (.tmp 16) (.tmp 76) rfl (u8s KK) rfl rfl (by simp [hKKl]) (infoU8_32 KK hKKl) (u8s_oneCell _) ?_; intro w7 h16 hB7 hO7; have h17z := hO7 _ _ _ (by omega) hz2; clear hO7)
        | (refine wpList_put h17z rfl 68 (.tmp 17) (.tmp 77) rfl (u8s NN) rfl rfl (by simp [hNNl]) (info12 NN hNNl) (u8s_oneCell _) ?_; intro w8 h17 hB8 hO8; have h168 := hO8 _ _ _ (by omega) h16; clear hO8; have hG8 : Gr w6 w8 := Below.trans (Below.trans hGz hB7) (hB8.mono (by omega)); have hr8 := hG8.rd hr6; have hb8 := hG8.rd hb6)
        | (refine wpList_load_mid rfl 22 (.tmp 16) rfl w6.heap.size 0 rfl (u8s KK) _ h168.range Tryd.underlying22 rfl (infoU8_32 KK hKKl) ?_)
        | (refine wpList_load_mid rfl 68 (.tmp 17) rfl (w6.heap.size + 1) 0 rfl (u8s NN) _ h17.range Tryd.underlying68 rfl (info12 NN hNNl) ?_)
        | (go_at_call 26; refine (HSL.out w8 hr8 hb8).mono ?_; rintro r w9 ⟨x, rfl, ho9, hB9⟩)
      refine bodyPost_ret (results_tmp2 rfl _ _ _) rfl ?_
      have hG59 : Gr w5 w9 := (hG6.trans hG8).trans hB9
      obtain ⟨T, hT1, _⟩ := hV.table
      have hE9 := hE5.gr hG59
      have hT5 : MapIs Tryd.prog 67 w5 b3 T := (hT1.gr hG4).ex hE45 (by simp; omega)
      obtain ⟨hV9, hT9⟩ := hV.putDown (e := e) (c := c) (k := k) (wi := wi) (b := b) hE9.below (fun i hi' h2 h3 => hE9.same i hi' (by simp [h2, h3])) (hM5.gr hG59) hT1 (fun h => by rw [hi] at h; cases h) (hT5.gr hG59) (fun h => by rw [hi] at h; cases h) hτ
      have hs1 := hE5.below.size
      have hs2 := (hG6.trans hG8).size
      exact ⟨x, rfl, own_lower ho9 (by omega), hV9, hT9⟩
set_option maxRecDepth 100000 in
set_option maxHeartbeats 16000000 in
theorem vseal_ideal {τ : Nat → Obj → Bool} {B : Nat} {w : World} {g b1 b2 b3 : Nat} {v : Vt} (hV : VIs τ B w g b1 b2 b3 v) (hτ : ∀ k o, ownV b1 b2 b3 k o = true → τ k o = true) (hτ2 : ∀ k C f, w.heap.size ≤ k → τ k (.cells C 5 f) = false) (hi : v.ideal = true) (e c k : Nat) (hR : Right e c k) (hs : ¬ v.spent c k)
    (A : Option Addr) (n cn : Nat) (wi : List UInt8) (D : Option Addr) (m dm : Nat) (b : List UInt8) (hn : n ≤ 900) (hm : m ≤ 900) (hr : Rd w A n (u8s wi)) (hb : Rd w D m (u8s b)) (hDn : D = none → m = 0 ∧ dm = 0) (hL : v.L.length ≤ 100000) :
    Calls Tryd.prog 13 #[.pointer (some ⟨g, 0, none⟩), .int .i64 (e : Int), .int .i64 (c : Int), .int .i64 (k : Int), .slice A n cn, .slice D m dm] w fun r w' => ∃ x, r = .returned (.tuple #[x, .int .i64 0]) ∧ w'.ownsRow w.heap.size 5 1 x (m + 16) (u8s (v.out e c k wi b)) ∧ VIs τ B w' g b1 b2 b3 (v.put e c k wi b) ∧ Tn (ownV b1 b2 b3) B w w' := by
  obtain ⟨i0, hi0, hz0, hz1, hz2⟩ := info_parts Tryd.info5
  have hX : v.out e c k wi b = drawL v.key 1 (v.L.length + 1) (b.length + 16) := by rw [Vt.out, hi]; rfl
  obtain ⟨X, hXe⟩ : ∃ X, X = v.out e c k wi b := ⟨_, rfl⟩
  obtain ⟨sz, hsz⟩ : ∃ s, s = m + 16 := ⟨_, rfl⟩
  obtain ⟨cnt, hcnt⟩ : ∃ s, s = v.L.length + 1 := ⟨_, rfl⟩
  have hbl0 : b.length = m := by simpa using hb.1
  have hXl : X.length = sz := by rw [hXe, hX, drawL_length (by omega), hbl0, hsz]
  have HD : Hid (∀ w, VK w g v.key → Calls Tryd.prog 22 #[.pointer (some ⟨g, 0, none⟩), .int .i64 1, .int .i64 (cnt : Int), .int .i64 (sz : Int)] w fun e w' => ∃ x, e = .returned x ∧ w'.ownsRow w.heap.size 5 1 x sz (u8s X) ∧ Gr w w') := by
    intro w h1
    rw [hXe, hX, hbl0, ← hsz, ← hcnt]
    exact draw_any h1 1 cnt sz (by omega) (by omega) (by omega) (by omega)
  have HSZ : Hid ((m : Int) + 16 = (sz : Int)) := by show _ = _; omega
  have HCN := Lib.hid hcnt
  have HXE := Lib.hid hXe
  have hszb : sz ≤ 1000 := by omega
  have HSZn := Lib.hid hsz
  rw [← hsz, ← hXe]
  clear hX hXe hsz hcnt hbl0
  have HR := Lib.hid (right_yes e c k hR)
  have HRt := Lib.hid hR
  obtain ⟨r1, r2, r3, r4, r5, r6⟩ := hR
  have hno := useE_no hs
  obtain ⟨ku, hku⟩ := keyOf_use c k (by omega) (by omega)
  have hui : (Tryd.prog.info? 64).map (·.size) = some ([.int .i64 (c : Int), .int .i64 (k : Int)] : List Value).length := by kernel_rfl
  have hzb : ∀ w, (zeroValue 4).run Tryd.prog w = .ok (.bool false) w := fun w => by kernel_rfl
  have hKl := hV.len
  have hwl : wi.length = n := by simpa using hr.1
  have hbl : b.length = m := by simpa using hb.1
  have hlt2 := hV.used.lt
  have hlt3 : b3 < w.heap.size := by obtain ⟨T, h1, _⟩ := hV.table; exact h1.lt
  have h12 := hV.lt1
  have h23 := hV.lt2
  have e20 : (e : Int) ≤ 1048576 := r2
  have c16 : (c : Int) ≤ 16 := r4
  have k62 : (k : Int) ≤ 4611686018427387904 := r6
  clear r1 r3 r5
  go_enter Tryd.func13, Tryd.ntmps13
  go_wp2_with fail
  refine (HR.out w).mono ?_
  rintro r w1 ⟨rfl, hG1⟩
  have hV1 := hV.gr hG1
  go_upto_region 4 with (refine wpList_new rfl 64 (.tmp 14) (.tmp 30) rfl _ [.int .i64 (c : Int), .int .i64 (k : Int)] rfl rfl rfl (by kernel_rfl) hui (by simp [Value.oneCell']) ?_; intro w2 h14 hG2)
  have hG12 := hG1.trans hG2
  have hV2 := hV1.gr hG2
  generalize w1.heap.size = g14 at h14 ⊢
  have c34 : w2.cell? ⟨g, 34, none⟩ = some (.map (some b2)) := hV2.cellN (i := 1) rfl
  have hM := hV2.used
  clear hV1 hG1 hG2
  refine wp_region_ssaL (by kernel_rfl) [IsV (.pointer (some ⟨g, 0, none⟩)), IsV (.pointer (some ⟨g, 0, none⟩)), IsV (.pointer (some ⟨g, 34, none⟩)), IsV (.map (some b2)), IsV (.agg #[.int .i64 (c : Int), .int .i64 (k : Int)]), IsV (.bool false)] (by kernel_rfl) ?_ ?_ ?_
  · intro φ hφ v w1 w2 h hg
    simp only [List.mem_cons, List.not_mem_nil, or_false] at hφ
    rcases hφ with rfl | rfl | rfl | rfl | rfl | rfl
    all_goals first | exact h | exact RdV.gr h hg
  · refine ⟨?_, ?_, ?_, ?_, ?_, ?_, trivial⟩
    · intro a1 w1 hG hF
      exact s_old rfl (wants0 rfl) (.tmp 0) (.inr rfl) (.pointer (some ⟨g, 0, none⟩)) (hF.ol 0 (by kernel_rfl)) rfl
    · intro a1 w1 hG hF
      obtain ⟨_, e31, rfl⟩ := hF.dp 0 31 (by kernel_rfl)
      exact s_is rfl (wants0 rfl) _ rfl (run_nil e31)
    · intro a1 w1 hG hF
      obtain ⟨_, e32, rfl⟩ := hF.dp 1 32 (by kernel_rfl)
      exact s_is rfl (wants0 rfl) _ rfl (run_field (o := 34) (k := 0) Tryd.underlying58 rfl rfl (by kernel_rfl) e32)
    · intro a1 w1 hG hF
      obtain ⟨_, e33, rfl⟩ := hF.dp 2 33 (by kernel_rfl)
      exact s_is rfl (wants0 rfl) _ rfl (run_load1B (.inr (.inl ⟨_, _, Tryd.underlying55⟩)) e33 (Gr.cell ((Gr.drew w2).trans hG) c34))
    · intro a1 w1 hG hF
      have e14 : a1.eval (.tmp 14) = .pointer (some ⟨g14, 0, none⟩) := hF.ol 14 (by kernel_rfl)
      exact s_is rfl (wants0 rfl) _ rfl (run_loadRow (cs := [.int .i64 (c : Int), .int .i64 (k : Int)]) Tryd.underlying64 rfl hui e14 (Arr.range (h14.gr ((Gr.drew w2).trans hG))))
    · intro a1 w1 hG hF
      obtain ⟨_, e34, rfl⟩ := hF.dp 3 34 (by kernel_rfl)
      obtain ⟨_, e35, rfl⟩ := hF.dp 4 35 (by kernel_rfl)
      exact s_is rfl (wants0 rfl) _ rfl (run_miss (hM.gr ((Gr.drew w2).trans hG)) keyedU Tryd.underlying55 e34 e35 hku hno (hzb _) false)
  · intro vs w1 hG hf
    have z36 : vs 5 = .bool false := hf.2.2.2.2.2.1
    clear hf
    simp only [putAll, Nat.zero_add, Nat.reduceAdd, z36]
    have hG3 := hG12.trans ((Gr.drew _).trans hG)
    have h143 := h14.gr ((Gr.drew _).trans hG)
    generalize w1 = w3 at hG3 h143 ⊢
    have hV3 := hV.gr hG3
    clear hG hG12 h14 hV2 c34 hM
    have c34 : w3.cell? ⟨g, 34, none⟩ = some (.map (some b2)) := hV3.cellN (i := 1) rfl
    have hM := hV3.used
    go_simp
    go_upto_region 6 with fail
    refine wp_region_cut (by kernel_rfl) [IsV (.pointer (some ⟨g, 0, none⟩)), IsV (.pointer (some ⟨g, 0, none⟩)), IsV (.pointer (some ⟨g, 34, none⟩)), IsV (.map (some b2)), IsV (.agg #[.int .i64 (c : Int), .int .i64 (k : Int)])] 5 (by decide) (by kernel_rfl) (by kernel_rfl) (by kernel_rfl) ?_ ?_ ?_
    · intro φ hφ v w1 w2 h hg
      simp only [List.mem_cons, List.not_mem_nil, or_false] at hφ
      rcases hφ with rfl | rfl | rfl | rfl | rfl
      all_goals first | exact h | exact RdV.gr h hg
    · refine ⟨?_, ?_, ?_, ?_, ?_, trivial⟩
      · intro a1 w1 hG hF
        exact s_old rfl (wants0 rfl) (.tmp 0) (.inr rfl) (.pointer (some ⟨g, 0, none⟩)) (hF.ol 0 (by kernel_rfl)) rfl
      · intro a1 w1 hG hF
        obtain ⟨_, e37, rfl⟩ := hF.dp 0 37 (by kernel_rfl)
        exact s_is rfl (wants0 rfl) _ rfl (run_nil e37)
      · intro a1 w1 hG hF
        obtain ⟨_, e38, rfl⟩ := hF.dp 1 38 (by kernel_rfl)
        exact s_is rfl (wants0 rfl) _ rfl (run_field (o := 34) (k := 0) Tryd.underlying58 rfl rfl (by kernel_rfl) e38)
      · intro a1 w1 hG hF
        obtain ⟨_, e39, rfl⟩ := hF.dp 2 39 (by kernel_rfl)
        exact s_is rfl (wants0 rfl) _ rfl (run_load1B (.inr (.inl ⟨_, _, Tryd.underlying55⟩)) e39 (Gr.cell ((Gr.drew w3).trans hG) c34))
      · intro a1 w1 hG hF
        have e14 : a1.eval (.tmp 14) = .pointer (some ⟨g14, 0, none⟩) := hF.ol 14 (by kernel_rfl)
        exact s_is rfl (wants0 rfl) _ rfl (run_loadRow (cs := [.int .i64 (c : Int), .int .i64 (k : Int)]) Tryd.underlying64 rfl hui e14 (Arr.range (h143.gr ((Gr.drew w3).trans hG))))
    · intro vs w1 hG hf
      have z40 : vs 3 = .map (some b2) := hf.2.2.2.1
      have z41 : vs 4 = .agg #[.int .i64 (c : Int), .int .i64 (k : Int)] := hf.2.2.2.2.1
      clear hf
      simp only [List.take_succ_cons, List.take_zero, List.drop_succ_cons, List.drop_zero, putAll, Nat.zero_add, Nat.reduceAdd, z40, z41]
      have hG4 := hG3.trans ((Gr.drew _).trans hG)
      have h144 := h143.gr ((Gr.drew _).trans hG)
      have hV4 := hV.gr hG4
      have hM4 := hV4.used
      refine wpList_add rfl (.tmp 40) (.tmp 41) (.const (.bool true)) rfl hM4 keyedU Tryd.underlying55 (key := useV c k) (val := .bool true) (by kernel_rfl) (by kernel_rfl) rfl hku hno ?_
      intro o' w5 hw5 hM5
      have hE5 : Ex [b2, b3] w w5 := (Ex.of_gr hG4).trans (by rw [hw5]; exact Ex.set hM4 (by simp))
      have h145 : Arr w5 g14 64 [.int .i64 (c : Int), .int .i64 (k : Int)] := h144.ex (S := [b2]) (by rw [hw5]; exact Ex.set hM4 (by simp)) (by simpa using h144.ne_map hM4)
      have hA5 := hV4.arr.ex (S := [b2]) (w' := w5) (by rw [hw5]; exact Ex.set hM4 (by simp)) (by simpa using hV4.arr.ne_map hM4)
      have hE45 : Ex [b2] w1 w5 := by rw [hw5]; exact Ex.set hM4 (by simp)
      clear hw5 hV4 hM c34 h144 hG hV3 h143
      have c0 := va_cell0 hA5
      have hvk : VK w5 g v.key := ⟨hKl, _, _, _, _, hA5⟩
      unfold wpList
      go_simp
      rw [hi] at c0
      have hr5 : Rd w5 A n (u8s wi) := (hG4.rd hr).ex hE45 hM4
      have hb5 : Rd w5 D m (u8s b) := (hG4.rd hb).ex hE45 hM4
      have c34 : w5.cell? ⟨g, 34, none⟩ = some (.map (some b2)) := va_cellN hA5 hKl (j := 1) rfl
      have hlen := fun ty => run_len_mapIs (P := Tryd.prog) (ty := ty) hM5 Tryd.underlying55
      rw [show (useE v.L ++ [(useV c k, Value.bool true)]).length = cnt by simp [useE, HCN.out]] at hlen
      go_wp2_with fail
      try simp only [HSZ.out]
      refine (HD.out w5 hvk).mono ?_
      rintro r w6 ⟨x, rfl, ho6, hG6⟩
      obtain ⟨A15, c15, rfl, hc15, _⟩ := own_form ho6
      have hr15 := Rd.of_own ho6
      have hr6 := hG6.rd hr5
      have hb6 := hG6.rd hb5
      have hA6 := hA5.gr hG6
      have h146 := h145.gr hG6
      have c35 : w6.cell? ⟨g, 35, none⟩ = some (.map (some b3)) := va_cellN hA6 hKl (j := 2) rfl
      obtain ⟨T, hT1, hTR⟩ := hV.table
      have hT6 : MapIs Tryd.prog 67 w6 b3 T := ((hT1.gr hG4).ex hE45 (by simp; omega)).gr hG6
      have hM6 := hM5.gr hG6
      have hnoT := (hTR hi).no (e := e) (c := c) (k := k) (wi := wi) (out := X) (fun s hs' hsame => hs ⟨s, hs', hsame.2.1, hsame.2.2.1⟩)
      obtain ⟨ks, hks⟩ := keyOf_seal (e := e) (c := c) (k := k) (wi := wi) (out := X) (by omega) (by omega) (by omega) (by omega) (by omega)
      have hE6 := hE5.gr hG6
      clear c0 hlen c34 hvk hA5 h145 hr5 hb5
      go_upto_region 9 with fail
      refine wp_region_cut (by kernel_rfl) [IsV (.pointer (some ⟨g, 0, none⟩)), IsV (.pointer (some ⟨g, 0, none⟩)), IsV (.pointer (some ⟨g, 35, none⟩)), IsV (.map (some b3)), IsV (.agg #[.int .i64 (c : Int), .int .i64 (k : Int)]), IsV (.int .i64 ((e : Nat) : Int)), IsV (.slice A n cn), IsV (.string ⟨(wi).toArray⟩), IsV (.slice A15 sz c15), IsV (.string ⟨(X).toArray⟩), IsV (sealV e c k wi X), IsV (.slice D m dm), CopyV w6.heap.size 5 b] 13 (by decide) (by kernel_rfl) (by kernel_rfl) (by kernel_rfl) ?_ ?_ ?_
      · intro φ hφ v w1 w2 h hg
        simp only [List.mem_cons, List.not_mem_nil, or_false] at hφ
        rcases hφ with rfl | rfl | rfl | rfl | rfl | rfl | rfl | rfl | rfl | rfl | rfl | rfl | rfl
        all_goals first | exact h | exact RdV.gr h hg | exact CopyV.gr h hg
      · refine ⟨?_, ?_, ?_, ?_, ?_, ?_, ?_, ?_, ?_, ?_, ?_, ?_, ?_, trivial⟩
        · intro a1 w1 hG hF
          exact s_old rfl (wants0 rfl) (.tmp 0) (.inr rfl) (.pointer (some ⟨g, 0, none⟩)) (hF.ol 0 (by kernel_rfl)) rfl
        · intro a1 w1 hG hF
          obtain ⟨_, e56, rfl⟩ := hF.dp 0 56 (by kernel_rfl)
          exact s_is rfl (wants0 rfl) _ rfl (run_nil e56)
        · intro a1 w1 hG hF
          obtain ⟨_, e57, rfl⟩ := hF.dp 1 57 (by kernel_rfl)
          exact s_is rfl (wants0 rfl) _ rfl (run_field (o := 35) (k := 0) Tryd.underlying58 rfl rfl (by kernel_rfl) e57)
        · intro a1 w1 hG hF
          obtain ⟨_, e58, rfl⟩ := hF.dp 2 58 (by kernel_rfl)
          exact s_is rfl (wants0 rfl) _ rfl (run_load1B (.inr (.inl ⟨_, _, Tryd.underlying56⟩)) e58 (Gr.cell ((Gr.drew w6).trans hG) c35))
        · intro a1 w1 hG hF
          have e14 : a1.eval (.tmp 14) = .pointer (some ⟨g14, 0, none⟩) := hF.ol 14 (by kernel_rfl)
          exact s_is rfl (wants0 rfl) _ rfl (run_loadRow (cs := [.int .i64 (c : Int), .int .i64 (k : Int)]) Tryd.underlying64 rfl hui e14 (Arr.range (h146.gr ((Gr.drew w6).trans hG))))
        · intro a1 w1 hG hF
          exact s_old rfl (wants0 rfl) (.tmp 1) (.inr rfl) (.int .i64 ((e : Nat) : Int)) (hF.ol 1 (by kernel_rfl)) rfl
        · intro a1 w1 hG hF
          exact s_old rfl (wants0 rfl) (.tmp 4) (.inr rfl) (.slice A n cn) (hF.ol 4 (by kernel_rfl)) rfl
        · intro a1 w1 hG hF
          obtain ⟨_, e62, rfl⟩ := hF.dp 6 62 (by kernel_rfl)
          exact s_str rfl (wants0 rfl) 27 9 5 (.tmp 62) rfl Tryd.underlying27 Tryd.underlying5 Tryd.underlying9 _ _ _ (wi) e62 (((Gr.drew w6).trans hG).rd hr6) rfl
        · intro a1 w1 hG hF
          exact s_old rfl (wants0 rfl) (.tmp 15) (.inr rfl) (.slice A15 sz c15) (hF.ol 15 (by kernel_rfl)) rfl
        · intro a1 w1 hG hF
          obtain ⟨_, e64, rfl⟩ := hF.dp 8 64 (by kernel_rfl)
          exact s_str rfl (wants0 rfl) 27 9 5 (.tmp 64) rfl Tryd.underlying27 Tryd.underlying5 Tryd.underlying9 _ _ _ (X) e64 (((Gr.drew w6).trans hG).rd hr15) rfl
        · intro a1 w1 hG hF
          obtain ⟨_, e60, rfl⟩ := hF.dp 4 60 (by kernel_rfl)
          obtain ⟨_, e61, rfl⟩ := hF.dp 5 61 (by kernel_rfl)
          obtain ⟨_, e63, rfl⟩ := hF.dp 7 63 (by kernel_rfl)
          obtain ⟨_, e65, rfl⟩ := hF.dp 9 65 (by kernel_rfl)
          exact s_is rfl (wants0 rfl) _ rfl (run_buildS e60 e61 e63 e65)
        · intro a1 w1 hG hF
          exact s_old rfl (wants0 rfl) (.tmp 5) (.inr rfl) (.slice D m dm) (hF.ol 5 (by kernel_rfl)) rfl
        · intro a1 w1 hG hF
          obtain ⟨_, e67, rfl⟩ := hF.dp 11 67 (by kernel_rfl)
          exact s_call rfl (wants0 rfl) _ rfl _ _ (by simp only [execOp, resolve, invoke, List.map_toArray, List.map_cons, List.map_nil, e67]; go_simp) ((bclone_any D m dm b (by omega) w1 (((Gr.drew w6).trans hG).rd hb6) hDn).mono fun e w2 ⟨v, he, ho, hb'⟩ => ⟨_, he, (by unfold CopyV; rw [hbl]; exact own_lower ho ((Gr.drew w6).trans hG).size), hb'⟩)
      · intro vs w1 hG hf
        have z59 : vs 3 = .map (some b3) := hf.2.2.2.1
        have z66 : vs 10 = sealV e c k wi X := hf.2.2.2.2.2.2.2.2.2.2.1
        have y68 : (CopyV w6.heap.size 5 b) (vs 12) w1 := hf.2.2.2.2.2.2.2.2.2.2.2.2.1
        clear hf
        simp only [List.take_succ_cons, List.take_zero, List.drop_succ_cons, List.drop_zero, putAll, Nat.zero_add, Nat.reduceAdd, z59, z66]
        have hG7 := (Gr.drew _).trans hG
        obtain ⟨A68, c68, z68, hc68, hA68, _⟩ := own_form3 y68
        rw [z68] at y68 ⊢
        rw [hbl] at y68 hc68 hA68 ⊢
        refine wpList_add rfl (.tmp 59) (.tmp 66) (.tmp 68) rfl (hT6.gr hG7) keyedT Tryd.underlying56 (key := sealV e c k wi X) (val := .slice A68 m c68) (by kernel_rfl) (by kernel_rfl) (by kernel_rfl) hks hnoT ?_
        intro o7 w7 hw7 hM7
        have hT7 := hT6.gr hG7
        have ho7 : w7.ownsRow w5.heap.size 5 1 (.slice A15 sz c15) sz (u8s X) := by rw [hw7]; exact own_set hT7 (Gr.own hG7 ho6)
        have ho68 : w7.ownsRow w6.heap.size 5 1 (.slice A68 m c68) m (u8s b) := by
          have y := y68
          unfold CopyV at y
          rw [hbl] at y
          rw [hw7]
          exact own_set hT7 y
        have hE7 : Ex [b2, b3] w w7 := (hE6.gr hG7).trans (by rw [hw7]; exact Ex.set hT7 (by simp))
        have hM27 : MapIs Tryd.prog 64 w7 b2 (useE v.L ++ [(useV c k, .bool true)]) := (hM6.gr hG7).ex (S := [b3]) (by rw [hw7]; exact Ex.set hT7 (by simp)) (by simp; omega)
        clear hw7 hT7
        unfold wpList
        go_simp
        go_wp2_with fail
        refine bodyPost_ret (results_tmp2 rfl _ _ _) rfl ?_
        rw [HXE.out] at hM7
        obtain ⟨hV9, hT9⟩ := hV.putDown (e := e) (c := c) (k := k) (wi := wi) (b := b) hE7.below (fun i hi' h2 h3 => hE7.same i hi' (by simp [h2, h3])) hM27 hT1 hTR hM7
          (fun _ => ⟨A68, c68, by rw [hbl], by rw [hbl]; exact hc68, fun h => (hA68 h).2, by rw [hbl]; exact RdS.of_own ho68 (fun k C f hk => hτ2 k C f (by have := hE6.below.size; omega))⟩) hτ
        have hs1 := hE5.below.size
        exact ⟨_, rfl, own_lower ho7 hs1, hV9, hT9⟩
end Go.Proofs.YtnmhfomnlnlflaaDoor
/- The walk of aead's Open. No condition. -/
namespace Go.Proofs.YtnmhfomnlnlflaaDoor
open Go.RowKit
/-- What Open answers: the bytes end too soon; they aren't what was sealed; they are. -/
def OpenQ (K N W s : List UInt8) (e : Ending) (w' : World) : Prop :=
  (s.length < 16 ∧ e = .returned (.tuple #[.slice none 0 0, .int .i64 2])) ∨
  (16 ≤ s.length ∧ aTag K N W (s.take (s.length - 16)) ≠ s.drop (s.length - 16) ∧ e = .returned (.tuple #[.slice none 0 0, .int .i64 6])) ∨
  (16 ≤ s.length ∧ aTag K N W (s.take (s.length - 16)) = s.drop (s.length - 16) ∧ ∃ A c, e = .returned (.tuple #[.slice A (s.length - 16) c, .int .i64 0]) ∧ s.length - 16 ≤ c ∧ Rd w' A (s.length - 16) (u8s (hideL K N (s.take (s.length - 16)))))
theorem below_drewN (w : World) (B k : Nat) : Below B w (w.drewN k) := below_dr ⟨k, rfl⟩
set_option maxRecDepth 100000 in
set_option maxHeartbeats 8000000 in
theorem open_any (K : List UInt8) (hK : K.length = 32) (N : List UInt8) (hN : N.length = 12) (A : Option Addr) (n c : Nat) (W : List UInt8) (B : Option Addr) (m d : Nat) (s : List UInt8) (hn : n ≤ 90000) (hm : m ≤ 90000) (hmd : m ≤ d) (w : World) (hr : Rd w A n (u8s W)) (hb : Rd w B m (u8s s)) :
    Calls Tryd.prog 27 #[.agg (u8s K).toArray, .agg (u8s N).toArray, .slice A n c, .slice B m d] w fun e w' => OpenQ K N W s e w' ∧ Below w.heap.size w w' := by
  have hsl : s.length = m := by simpa using hb.1
  have iK := info22 K hK
  have iN := info24 N hN
  have h4 : Arr ((w.alloc (.cells (u8s K).toArray 22)).alloc (.cells (u8s N).toArray 68)) w.heap.size 22 (u8s K) := Arr.alloc (Arr.newAt rfl rfl) _
  have h5 : Arr ((w.alloc (.cells (u8s K).toArray 22)).alloc (.cells (u8s N).toArray 68)) (w.heap.size + 1) 68 (u8s N) := Arr.newAt (asz _ _) rfl
  have G0 : Gr w ((w.alloc (.cells (u8s K).toArray 22)).alloc (.cells (u8s N).toArray 68)) := (Gr.alloc _ _).trans (Gr.alloc _ _)
  by_cases h16 : m < 16
  · have hneg : (m : Int) - 16 < 0 := by omega
    have HX : Hid (s.length < 16) := by show _ < _; omega
    clear hsl
    go_enter Tryd.func27, Tryd.ntmps27
    go_wp2_with fail
    refine bodyPost_ret (results_tmp2 rfl _ _ _) rfl ?_
    exact ⟨.inl ⟨HX.out, rfl⟩, G0⟩
  · obtain ⟨j, hj⟩ : ∃ j : Nat, m = j + 16 := ⟨m - 16, by omega⟩
    subst hj
    have hji : (((j + 16 : Nat) : Int) - 16) = (j : Int) := by omega
    have hnn : ¬ (j : Int) < 0 := by omega
    have e1 : s.length - 16 = j := by omega
    obtain ⟨C, hC⟩ : ∃ C, C = s.take j := ⟨_, rfl⟩
    obtain ⟨E, hE⟩ : ∃ E, E = s.drop j := ⟨_, rfl⟩
    have hCl : C.length = j := by rw [hC, List.length_take]; omega
    have hEl : E.length = 16 := by rw [hE, List.length_drop]; omega
    have hbC : Rd w B j (u8s C) := by rw [hC, ← u8s_take]; exact hb.take (by omega)
    have hbE : Rd w (cutA B d j) 16 (u8s E) := by
      have := hb.cutL (lo := j) (c := d) (by omega) hmd
      rw [hE, ← u8s_drop]
      rwa [show j + 16 - j = 16 by omega] at this
    obtain ⟨T, hT⟩ : ∃ T, T = aTag K N W C := ⟨_, rfl⟩
    have hTl : T.length = 16 := by rw [hT]; simp
    have HQ1 : Hid (T ≠ E → ∀ w', OpenQ K N W s (.returned (.tuple #[.slice none 0 0, .int .i64 6])) w') := fun h w' => .inr (.inl ⟨by omega, by rw [e1, ← hC, ← hE, ← hT]; exact h, rfl⟩)
    have HQ2 : Hid (T = E → ∀ A c w', j ≤ c → Rd w' A j (u8s (hideL K N C)) → OpenQ K N W s (.returned (.tuple #[.slice A j c, .int .i64 0])) w') := fun h A c w' hc hr => .inr (.inr ⟨by omega, by rw [e1, ← hC, ← hE, ← hT]; exact h, A, c, by rw [e1], by rw [e1]; exact hc, by rw [e1, ← hC]; exact hr⟩)
    have HT : Hid (∀ w d, Rd w A n (u8s W) → Rd w B j (u8s C) → Calls Tryd.prog 37 #[.agg (u8s K).toArray, .agg (u8s N).toArray, .slice A n c, .slice B j d] w fun e w' => e = .returned (.agg (u8s T).toArray) ∧ Below w.heap.size w w') := by
      intro w d hr hb
      rw [hT]
      exact aTag_any K hK N hN A n c W B j d C (by omega) (by omega) w hr hb
    have HS : Hid (∀ w, Rd w B j (u8s C) → Calls Tryd.prog 34 #[.agg (u8s K).toArray, .int .u32 1, .agg (u8s N).toArray, .slice B j d] w fun e w' => ∃ v, e = .returned v ∧ w'.ownsRow w.heap.size 5 1 v j (u8s (hideL K N C)) ∧ Below w.heap.size w w') := by
      intro w hb
      exact stream_any K hK 1 N hN B j d C (by omega) (by omega) w hb
    have HM : Hid (∀ w g, Rd w (some ⟨g, 0, none⟩) 16 (u8s T) → Rd w (cutA B d j) 16 (u8s E) → Calls Tryd.prog 38 #[.slice (some ⟨g, 0, none⟩) 16 16, .slice (cutA B d j) 16 (d - j)] w fun e w' => e = .returned (.bool (decide (T = E))) ∧ Below w.heap.size w w') := by
      intro w g h1 h2
      refine (same_any _ _ 16 16 (d - j) T E (by omega) w h1 h2).mono ?_
      rintro e w' ⟨he, k, rfl⟩
      exact ⟨he, below_drewN _ _ _⟩
    have HC1 := Lib.hid fun w1 => run_cut_h (P := Tryd.prog) Tryd.underlying27 (by kernel_rfl) (A := B) (n := j + 16) (c := d) (hi := j) (h := (j : Int)) rfl (by omega) w1
    have HC2 : Hid (∀ w1, (Instr.sliceAt 27 (.slice B (j + 16) d) (some (.int .i64 (j : Int))) none none).run Tryd.prog w1 = .ok (.slice (cutA B d j) 16 (d - j)) w1) := by
      intro w1
      rw [run_cut_l (P := Tryd.prog) (lo := j) Tryd.underlying27 (by kernel_rfl) rfl (by omega), show j + 16 - j = 16 by omega]
    clear hT hC hE e1 hsl h16
    go_enter Tryd.func27, Tryd.ntmps27
    go_upto_region 4 with fail
    generalize (w.alloc (.cells (u8s K).toArray 22)).alloc (.cells (u8s N).toArray 68) = w0 at h4 h5 G0 ⊢
    generalize w.heap.size + 1 = g5 at h5 ⊢
    obtain ⟨g4, hg4⟩ : ∃ g, g = w.heap.size := ⟨_, rfl⟩
    rw [← hg4] at h4
    simp only [← hg4]
    have HG4 := Lib.hid hg4
    clear hg4
    have hr0 := G0.rd hr
    have hbC0 := G0.rd hbC
    have hbE0 := G0.rd hbE
    refine wp_region_cut (by kernel_rfl) [IsV (.agg (u8s K).toArray), IsV (.agg (u8s N).toArray), IsV (.slice A n c), IsV (.slice B (j + 16) d), IsV (.int .i64 ((j : Nat) : Int)), IsV (.slice B j d), IsV (.agg (u8s T).toArray), NewA w0.heap.size 88 (u8s (List.replicate 16 0))] 8 (by decide) (by kernel_rfl) (by kernel_rfl) (by kernel_rfl) ?_ ?_ ?_
    · intro φ hφ v w1 w2 h hg
      simp only [List.mem_cons, List.not_mem_nil, or_false] at hφ
      rcases hφ with rfl | rfl | rfl | rfl | rfl | rfl | rfl | rfl
      all_goals first | exact h | exact RdV.gr h hg | exact NewA.gr h hg
    · refine ⟨?_, ?_, ?_, ?_, ?_, ?_, ?_, ?_, trivial⟩
      · intro a1 w1 hG hF
        have e4 : a1.eval (.tmp 4) = .pointer (some ⟨g4, 0, none⟩) := hF.ol 4 (by kernel_rfl)
        exact s_wp rfl (wants0 rfl) (wp_load_mid _ _ rfl g4 0 e4 (u8s K) _ (Arr.gr h4 ((Gr.drew w0).trans hG)).range Tryd.underlying22 rfl iK ⟨_, rfl, rfl, Gr.refl _⟩)
      · intro a1 w1 hG hF
        have e5 : a1.eval (.tmp 5) = .pointer (some ⟨g5, 0, none⟩) := hF.ol 5 (by kernel_rfl)
        exact s_wp rfl (wants0 rfl) (wp_load_mid _ _ rfl g5 0 e5 (u8s N) _ (Arr.gr h5 ((Gr.drew w0).trans hG)).range Tryd.underlying68 rfl iN ⟨_, rfl, rfl, Gr.refl _⟩)
      · intro a1 w1 hG hF
        exact s_old rfl (wants0 rfl) (.tmp 2) (.inr rfl) (.slice A n c) (hF.ol 2 (by kernel_rfl)) rfl
      · intro a1 w1 hG hF
        exact s_old rfl (wants0 rfl) (.tmp 3) (.inr rfl) (.slice B (j + 16) d) (hF.ol 3 (by kernel_rfl)) rfl
      · intro a1 w1 hG hF
        exact s_old rfl (wants0 rfl) (.tmp 10) (.inr rfl) (.int .i64 ((j : Nat) : Int)) (hF.ol 10 (by kernel_rfl)) rfl
      · intro a1 w1 hG hF
        obtain ⟨_, e20, rfl⟩ := hF.dp 3 20 (by kernel_rfl)
        obtain ⟨_, e21, rfl⟩ := hF.dp 4 21 (by kernel_rfl)
        exact s_is rfl (wants0 rfl) _ rfl (by simp only [execOp, e20, e21, Option.map, Sem.run_bind, HC1.out, Result.andThen_ok, Sem.run_pure])
      · intro a1 w1 hG hF
        obtain ⟨_, e17, rfl⟩ := hF.dp 0 17 (by kernel_rfl)
        obtain ⟨_, e18, rfl⟩ := hF.dp 1 18 (by kernel_rfl)
        obtain ⟨_, e19, rfl⟩ := hF.dp 2 19 (by kernel_rfl)
        obtain ⟨_, e22, rfl⟩ := hF.dp 5 22 (by kernel_rfl)
        exact s_call rfl (wants0 rfl) _ rfl _ _ (by simp only [execOp, resolve, invoke, List.map_toArray, List.map_cons, List.map_nil, e17, e18, e19, e22]; go_simp) ((HT.out w1 d (((Gr.drew w0).trans hG).rd hr0) (((Gr.drew w0).trans hG).rd hbC0)).mono fun e w2 ⟨he, hb⟩ => ⟨_, he, rfl, hb⟩)
      · intro a1 w1 hG hF
        exact s_val rfl (wants0 rfl) _ rfl _ (w1.alloc (.cells (u8s (List.replicate 16 0)).toArray 88)) (by simp only [execOp]; go_simp; kernel_rfl) ⟨_, rfl, ((Gr.drew w0).trans hG).size, Arr.newAt rfl rfl⟩ (Gr.alloc _ _)
    · intro vs w1 hG hf
      have z23 : vs 6 = .agg (u8s T).toArray := hf.2.2.2.2.2.2.1
      have y11 : (NewA w0.heap.size 88 (u8s (List.replicate 16 0))) (vs 7) w1 := hf.2.2.2.2.2.2.2.1
      clear hf
      simp only [List.take_succ_cons, List.take_zero, List.drop_succ_cons, List.drop_zero, putAll, Nat.zero_add, Nat.reduceAdd, z23]
      have hG1 := (Gr.drew w0).trans hG
      obtain ⟨g11, z11, n11, h11⟩ := y11
      rw [z11]
      refine wpList_put h11 rfl 88 (.tmp 11) (.tmp 23) rfl (u8s T) (by kernel_rfl) (by kernel_rfl) (by simp [hTl]) (info16 T hTl) (u8s_oneCell _) ?_
      intro w2 h112 hB2 _
      have G2 : Gr w0 w2 := Below.trans hG1 (hB2.mono n11)
      have hbC2 := G2.rd hbC0
      have hbE2 := G2.rd hbE0
      have h42 := h4.gr G2
      have h52 := h5.gr G2
      have hB2 : Below w.heap.size w w2 := Below.trans G0 (Below.mono G2 G0.size)
      have hr11 := h112.rdAll hTl
      clear hG1 hG h11 h112 G2 hbC0 hbE0 h4 h5 G0 z11 n11 HT hr0
      unfold wpList
      go_simp
      by_cases hTE : T = E
      · have HM2 : Hid (∀ w, Rd w (some ⟨g11, 0, none⟩) 16 (u8s T) → Rd w (cutA B d j) 16 (u8s E) → Calls Tryd.prog 38 #[.slice (some ⟨g11, 0, none⟩) 16 16, .slice (cutA B d j) 16 (d - j)] w fun e w' => e = .returned (.bool true) ∧ Below w.heap.size w w') := by
          intro w h1 h2
          have := HM.out w g11 h1 h2
          rwa [decide_eq_true hTE] at this
        have HQ := Lib.hid (HQ2.out hTE)
        clear HM HQ1 HQ2 hTE
        go_wp2_with fail
        refine wp_region_ssaL (by kernel_rfl) [IsV (.slice (some ⟨g11, 0, none⟩) 16 16), IsV (.slice B (j + 16) d), IsV (.int .i64 ((j : Nat) : Int)), IsV (.slice (cutA B d j) 16 (d - j)), IsV (.bool true), IsV (.bool false)] (by kernel_rfl) ?_ ?_ ?_
        · intro φ hφ v w1 w2 h hg
          simp only [List.mem_cons, List.not_mem_nil, or_false] at hφ
          rcases hφ with rfl | rfl | rfl | rfl | rfl | rfl
          all_goals first | exact h | exact RdV.gr h hg
        · refine ⟨?_, ?_, ?_, ?_, ?_, ?_, trivial⟩
          · intro a1 w1 hG hF
            have e11 : a1.eval (.tmp 11) = .pointer (some ⟨g11, 0, none⟩) := hF.ol 11 (by kernel_rfl)
            exact s_is rfl (wants0 rfl) _ rfl (by simp only [execOp, e11, Option.map, Sem.run_bind, run_cutAll (P := Tryd.prog) Tryd.underlying88 (by kernel_rfl), Result.andThen_ok, Sem.run_pure])
          · intro a1 w1 hG hF
            exact s_old rfl (wants0 rfl) (.tmp 3) (.inr rfl) (.slice B (j + 16) d) (hF.ol 3 (by kernel_rfl)) rfl
          · intro a1 w1 hG hF
            exact s_old rfl (wants0 rfl) (.tmp 10) (.inr rfl) (.int .i64 ((j : Nat) : Int)) (hF.ol 10 (by kernel_rfl)) rfl
          · intro a1 w1 hG hF
            obtain ⟨_, e25, rfl⟩ := hF.dp 1 25 (by kernel_rfl)
            obtain ⟨_, e26, rfl⟩ := hF.dp 2 26 (by kernel_rfl)
            exact s_is rfl (wants0 rfl) _ rfl (by simp only [execOp, e25, e26, Option.map, Sem.run_bind, HC2.out, Result.andThen_ok, Sem.run_pure])
          · intro a1 w1 hG hF
            obtain ⟨_, e24, rfl⟩ := hF.dp 0 24 (by kernel_rfl)
            obtain ⟨_, e27, rfl⟩ := hF.dp 3 27 (by kernel_rfl)
            exact s_call rfl (wants0 rfl) _ rfl _ _ (by simp only [execOp, resolve, invoke, List.map_toArray, List.map_cons, List.map_nil, e24, e27]; go_simp) ((HM2.out w1 (((Gr.drew w2).trans hG).rd hr11) (((Gr.drew w2).trans hG).rd hbE2)).mono fun e w2 ⟨he, hb⟩ => ⟨_, he, rfl, hb⟩)
          · intro a1 w1 hG hF
            obtain ⟨_, e28, rfl⟩ := hF.dp 4 28 (by kernel_rfl)
            exact s_is rfl (wants0 rfl) _ rfl (by simp only [execOp, e28]; go_simp)
        · intro vs w1 hG hf
          have z29 : vs 5 = .bool false := hf.2.2.2.2.2.1
          clear hf
          simp only [putAll, Nat.zero_add, Nat.reduceAdd, z29]
          have hG2 := (Gr.drew w2).trans hG
          have hbC3 := hG2.rd hbC2
          have h43 := h42.gr hG2
          have h53 := h52.gr hG2
          have hB3 := hB2.trans (hG2.mono hB2.size)
          generalize w1 = w3 at hbC3 h43 h53 hB3 ⊢
          clear hG2 hG hbC2 h42 h52 hB2
          go_simp
          go_wp2_with fail
          refine wp_region_ssaL (by kernel_rfl) [IsV (.agg (u8s K).toArray), IsV (.agg (u8s N).toArray), IsV (.slice B (j + 16) d), IsV (.int .i64 ((j : Nat) : Int)), IsV (.slice B j d), RdV (j) (hideL K N C), RdV (j) (hideL K N C), IsV (.int .i64 ((0 : Nat) : Int))] (by kernel_rfl) ?_ ?_ ?_
          · intro φ hφ v w1 w2 h hg
            simp only [List.mem_cons, List.not_mem_nil, or_false] at hφ
            rcases hφ with rfl | rfl | rfl | rfl | rfl | rfl | rfl | rfl
            all_goals first | exact h | exact RdV.gr h hg
          · refine ⟨?_, ?_, ?_, ?_, ?_, ?_, ?_, ?_, trivial⟩
            · intro a1 w1 hG hF
              have e4 : a1.eval (.tmp 4) = .pointer (some ⟨g4, 0, none⟩) := hF.ol 4 (by kernel_rfl)
              exact s_wp rfl (wants0 rfl) (wp_load_mid _ _ rfl g4 0 e4 (u8s K) _ (Arr.gr h43 ((Gr.drew w3).trans hG)).range Tryd.underlying22 rfl iK ⟨_, rfl, rfl, Gr.refl _⟩)
            · intro a1 w1 hG hF
              have e5 : a1.eval (.tmp 5) = .pointer (some ⟨g5, 0, none⟩) := hF.ol 5 (by kernel_rfl)
              exact s_wp rfl (wants0 rfl) (wp_load_mid _ _ rfl g5 0 e5 (u8s N) _ (Arr.gr h53 ((Gr.drew w3).trans hG)).range Tryd.underlying68 rfl iN ⟨_, rfl, rfl, Gr.refl _⟩)
            · intro a1 w1 hG hF
              exact s_old rfl (wants0 rfl) (.tmp 3) (.inr rfl) (.slice B (j + 16) d) (hF.ol 3 (by kernel_rfl)) rfl
            · intro a1 w1 hG hF
              exact s_old rfl (wants0 rfl) (.tmp 10) (.inr rfl) (.int .i64 ((j : Nat) : Int)) (hF.ol 10 (by kernel_rfl)) rfl
            · intro a1 w1 hG hF
              obtain ⟨_, e32, rfl⟩ := hF.dp 2 32 (by kernel_rfl)
              obtain ⟨_, e33, rfl⟩ := hF.dp 3 33 (by kernel_rfl)
              exact s_is rfl (wants0 rfl) _ rfl (by simp only [execOp, e32, e33, Option.map, Sem.run_bind, HC1.out, Result.andThen_ok, Sem.run_pure])
            · intro a1 w1 hG hF
              obtain ⟨_, e30, rfl⟩ := hF.dp 0 30 (by kernel_rfl)
              obtain ⟨_, e31, rfl⟩ := hF.dp 1 31 (by kernel_rfl)
              obtain ⟨_, e34, rfl⟩ := hF.dp 4 34 (by kernel_rfl)
              exact s_call rfl (wants0 rfl) _ rfl _ _ (by simp only [execOp, resolve, invoke, List.map_toArray, List.map_cons, List.map_nil, e30, e31, e34]; go_simp) ((HS.out w1 (((Gr.drew w3).trans hG).rd hbC3)).mono fun e w2 ⟨v, he, ho, hb⟩ => ⟨_, he, RdV.own ho, hb⟩)
            · intro a1 w1 hG hF
              exact s_same rfl (wants0 rfl) (.tmp 35) (.inl rfl) (hF.dp 5 35 (by kernel_rfl))
            · intro a1 w1 hG hF
              exact s_old rfl (wants0 rfl) _ (.inl rfl) _ rfl rfl
          · intro vs w1 hG hf
            obtain ⟨A8, c8, z8, hc8, r8⟩ : RdV (j) (hideL K N C) (vs 6) w1 := hf.2.2.2.2.2.2.1
            have z9 : vs 7 = .int .i64 ((0 : Nat) : Int) := hf.2.2.2.2.2.2.2.1
            clear hf
            simp only [putAll, Nat.zero_add, Nat.reduceAdd, z8, z9]
            have hG3 := (Gr.drew w3).trans hG
            go_simp
            go_wp2_with fail
            refine bodyPost_ret (results_tmp2 rfl _ _ _) rfl ?_
            rw [HG4.out] at *
            exact ⟨HQ.out _ _ _ hc8 r8, hB3.trans (hG3.mono hB3.size)⟩
      · have HM2 : Hid (∀ w, Rd w (some ⟨g11, 0, none⟩) 16 (u8s T) → Rd w (cutA B d j) 16 (u8s E) → Calls Tryd.prog 38 #[.slice (some ⟨g11, 0, none⟩) 16 16, .slice (cutA B d j) 16 (d - j)] w fun e w' => e = .returned (.bool false) ∧ Below w.heap.size w w') := by
          intro w h1 h2
          have := HM.out w g11 h1 h2
          rwa [decide_eq_false hTE] at this
        have HQ := Lib.hid (HQ1.out hTE)
        clear HM HQ1 HQ2 hTE
        go_wp2_with fail
        refine wp_region_ssaL (by kernel_rfl) [IsV (.slice (some ⟨g11, 0, none⟩) 16 16), IsV (.slice B (j + 16) d), IsV (.int .i64 ((j : Nat) : Int)), IsV (.slice (cutA B d j) 16 (d - j)), IsV (.bool false), IsV (.bool true)] (by kernel_rfl) ?_ ?_ ?_
        · intro φ hφ v w1 w2 h hg
          simp only [List.mem_cons, List.not_mem_nil, or_false] at hφ
          rcases hφ with rfl | rfl | rfl | rfl | rfl | rfl
          all_goals first | exact h | exact RdV.gr h hg
        · refine ⟨?_, ?_, ?_, ?_, ?_, ?_, trivial⟩
          · intro a1 w1 hG hF
            have e11 : a1.eval (.tmp 11) = .pointer (some ⟨g11, 0, none⟩) := hF.ol 11 (by kernel_rfl)
            exact s_is rfl (wants0 rfl) _ rfl (by simp only [execOp, e11, Option.map, Sem.run_bind, run_cutAll (P := Tryd.prog) Tryd.underlying88 (by kernel_rfl), Result.andThen_ok, Sem.run_pure])
          · intro a1 w1 hG hF
            exact s_old rfl (wants0 rfl) (.tmp 3) (.inr rfl) (.slice B (j + 16) d) (hF.ol 3 (by kernel_rfl)) rfl
          · intro a1 w1 hG hF
            exact s_old rfl (wants0 rfl) (.tmp 10) (.inr rfl) (.int .i64 ((j : Nat) : Int)) (hF.ol 10 (by kernel_rfl)) rfl
          · intro a1 w1 hG hF
            obtain ⟨_, e25, rfl⟩ := hF.dp 1 25 (by kernel_rfl)
            obtain ⟨_, e26, rfl⟩ := hF.dp 2 26 (by kernel_rfl)
            exact s_is rfl (wants0 rfl) _ rfl (by simp only [execOp, e25, e26, Option.map, Sem.run_bind, HC2.out, Result.andThen_ok, Sem.run_pure])
          · intro a1 w1 hG hF
            obtain ⟨_, e24, rfl⟩ := hF.dp 0 24 (by kernel_rfl)
            obtain ⟨_, e27, rfl⟩ := hF.dp 3 27 (by kernel_rfl)
            exact s_call rfl (wants0 rfl) _ rfl _ _ (by simp only [execOp, resolve, invoke, List.map_toArray, List.map_cons, List.map_nil, e24, e27]; go_simp) ((HM2.out w1 (((Gr.drew w2).trans hG).rd hr11) (((Gr.drew w2).trans hG).rd hbE2)).mono fun e w2 ⟨he, hb⟩ => ⟨_, he, rfl, hb⟩)
          · intro a1 w1 hG hF
            obtain ⟨_, e28, rfl⟩ := hF.dp 4 28 (by kernel_rfl)
            exact s_is rfl (wants0 rfl) _ rfl (by simp only [execOp, e28]; go_simp)
        · intro vs w1 hG hf
          have z29 : vs 5 = .bool true := hf.2.2.2.2.2.1
          clear hf
          simp only [putAll, Nat.zero_add, Nat.reduceAdd, z29]
          have hG2 := (Gr.drew w2).trans hG
          have hB3 := hB2.trans (hG2.mono hB2.size)
          go_simp
          go_wp2_with fail
          refine bodyPost_ret (results_tmp2 rfl _ _ _) rfl ?_
          rw [HG4.out] at *
          exact ⟨HQ.out _, hB3⟩
end Go.Proofs.YtnmhfomnlnlflaaDoor
/- The walk of the vault's Open. No condition. -/
namespace Go.Proofs.YtnmhfomnlnlflaaDoor
open Go.RowKit
set_option maxRecDepth 100000 in
set_option maxHeartbeats 4000000 in
theorem vopen_nil (e c k : Int) (x y : Value) (w : World) :
    Calls Tryd.prog 15 #[.pointer none, .int .i64 e, .int .i64 c, .int .i64 k, x, y] w fun r w' => r = .returned (.tuple #[.slice none 0 0, .int .i64 1]) ∧ Gr w w' := by
  go_enter Tryd.func15, Tryd.ntmps15
  go_wp2_with fail
  refine bodyPost_ret (results_tmp2 rfl _ _ _) rfl ?_
  exact ⟨rfl, Gr.refl _⟩
set_option maxRecDepth 100000 in
set_option maxHeartbeats 4000000 in
theorem vopen_bad (g : Nat) (e c k : Int) (h : ¬ Right e c k) (x y : Value) (w : World) :
    Calls Tryd.prog 15 #[.pointer (some ⟨g, 0, none⟩), .int .i64 e, .int .i64 c, .int .i64 k, x, y] w fun r w' => r = .returned (.tuple #[.slice none 0 0, .int .i64 1]) ∧ Gr w w' := by
  have HR := Lib.hid (right_no e c k h)
  go_enter Tryd.func15, Tryd.ntmps15
  go_wp2_with fail
  refine (HR.out w).mono ?_
  rintro r w1 ⟨rfl, hG1⟩
  go_wp2_with fail
  refine bodyPost_ret (results_tmp2 rfl _ _ _) rfl ?_
  exact ⟨rfl, hG1⟩
set_option maxRecDepth 100000 in
set_option maxHeartbeats 4000000 in
theorem vopen_short (g : Nat) (e c k : Int) (h : Right e c k) (x : Value) (D : Option Addr) (m dm : Nat) (hm : m < 16) (w : World) :
    Calls Tryd.prog 15 #[.pointer (some ⟨g, 0, none⟩), .int .i64 e, .int .i64 c, .int .i64 k, x, .slice D m dm] w fun r w' => r = .returned (.tuple #[.slice none 0 0, .int .i64 2]) ∧ Gr w w' := by
  have HR := Lib.hid (right_yes e c k h)
  have hmi : (m : Int) < 16 := by omega
  go_enter Tryd.func15, Tryd.ntmps15
  go_wp2_with fail
  refine (HR.out w).mono ?_
  rintro r w1 ⟨rfl, hG1⟩
  go_wp2_with fail
  refine bodyPost_ret (results_tmp2 rfl _ _ _) rfl ?_
  exact ⟨rfl, hG1⟩
/-- What Open hands back. -/
def OpenR (v : Vt) (e c k : Nat) (wi s : List UInt8) (x : Ending) (w' : World) : Prop :=
  ∃ r, v.opens e c k wi s r ∧ ∃ A cc, x = .returned (.tuple #[.slice A r.1.length cc, .int .i64 (r.2 : Int)]) ∧ r.1.length ≤ cc ∧ Rd w' A r.1.length (u8s r.1)
set_option maxRecDepth 100000 in
set_option maxHeartbeats 16000000 in
theorem vopen_real {τ : Nat → Obj → Bool} {B : Nat} {w : World} {g b1 b2 b3 : Nat} {v : Vt} (hV : VIs τ B w g b1 b2 b3 v) (hi : v.ideal = false) (e c k : Nat) (hR : Right e c k)
    (A : Option Addr) (n cn : Nat) (wi : List UInt8) (D : Option Addr) (m dm : Nat) (s : List UInt8) (hn : n ≤ 9000) (hm16 : 16 ≤ m) (hm : m ≤ 9000) (hmd : m ≤ dm) (hr : Rd w A n (u8s wi)) (hb : Rd w D m (u8s s)) (gw : Glob w) :
    Calls Tryd.prog 15 #[.pointer (some ⟨g, 0, none⟩), .int .i64 (e : Int), .int .i64 (c : Int), .int .i64 (k : Int), .slice A n cn, .slice D m dm] w fun r w' => OpenR v e c k wi s r w' ∧ Gr w w' := by
  have HR := Lib.hid (right_yes e c k hR)
  have hbl : s.length = m := by simpa using hb.1
  obtain ⟨KK, hKK⟩ : ∃ X, X = sealKL v.key e := ⟨_, rfl⟩
  have hKKl : KK.length = 32 := by rw [hKK]; simp
  obtain ⟨NN, hNN⟩ : ∃ X, X = nonceL c k := ⟨_, rfl⟩
  have hNNl : NN.length = 12 := by rw [hNN]; simp
  have HK : Hid (∀ w, VK w g v.key → Glob w → Calls Tryd.prog 25 #[.pointer (some ⟨g, 0, none⟩), .int .i64 (e : Int), .int .i64 (c : Int), .int .i64 (k : Int)] w fun r w' => r = .returned (.tuple #[.agg (u8s KK).toArray, .agg (u8s NN).toArray, .int .i64 0]) ∧ Gr w w') := by
    intro w h1 h2
    rw [hKK, hNN]
    exact keys_any h1 e c k hR h2
  have HO : Hid (∀ w, Rd w A n (u8s wi) → Rd w D m (u8s s) → Calls Tryd.prog 27 #[.agg (u8s KK).toArray, .agg (u8s NN).toArray, .slice A n cn, .slice D m dm] w fun e w' => OpenQ KK NN wi s e w' ∧ Below w.heap.size w w') := by
    intro w h1 h2
    exact open_any KK hKKl NN hNNl A n cn wi D m dm s (by omega) (by omega) hmd w h1 h2
  have HKN : Hid (KK = sealKL v.key e ∧ NN = nonceL c k) := ⟨hKK, hNN⟩
  have hvk := hV.vk
  have c0 := hV.cell0
  have hm16i : ¬ (m : Int) < 16 := by omega
  rw [hi] at c0
  have HI := Lib.hid hi
  clear hKK hNN hR hV hi
  go_enter Tryd.func15, Tryd.ntmps15
  go_wp2_with fail
  refine (HR.out w).mono ?_
  rintro r w1 ⟨rfl, hG1⟩
  have c01 := hG1.cell c0
  have hvk1 := hvk.gr hG1
  have gw1 := gw.gr hG1
  have hr1 := hG1.rd hr
  have hb1 := hG1.rd hb
  clear c0 hvk gw hr hb
  go_wp2_with fail
  refine (HK.out w1 hvk1 gw1).mono ?_
  rintro r w6 ⟨rfl, hG6⟩
  have hr6 := hG6.rd hr1
  have hb6 := hG6.rd hb1
  have hz1 : Arr ((w6.alloc (.cells (u8s (List.replicate 32 0)).toArray 22)).alloc (.cells (u8s (List.replicate 12 0)).toArray 68)) w6.heap.size 22 (u8s (List.replicate 32 0)) := Arr.gr (Arr.newAt rfl rfl) (Gr.alloc _ _)
  have hz2 : Arr ((w6.alloc (.cells (u8s (List.replicate 32 0)).toArray 22)).alloc (.cells (u8s (List.replicate 12 0)).toArray 68)) (w6.heap.size + 1) 68 (u8s (List.replicate 12 0)) := Arr.newAt (by simp only [asz]) rfl
  have hGz : Gr w6 ((w6.alloc (.cells (u8s (List.replicate 32 0)).toArray 22)).alloc (.cells (u8s (List.replicate 12 0)).toArray 68)) := (Gr.alloc _ _).trans (Gr.alloc _ _)
  go_upto_region 13 with first
    | (refine wpList_put hz1 rfl 22 (.tmp 16) (.tmp 64) rfl (u8s KK) rfl rfl (by simp [hKKl]) (infoU8_32 KK hKKl) (u8s_oneCell _) ?_; intro w7 h16 hB7 hO7; have h17z := hO7 _ _ _ (by omega) hz2; clear hO7)
    | (refine wpList_put h17z rfl 68 (.tmp 17) (.tmp 65) rfl (u8s NN) rfl rfl (by simp [hNNl]) (info12 NN hNNl) (u8s_oneCell _) ?_; intro w8 h17 hB8 hO8; have h168 := hO8 _ _ _ (by omega) h16; clear hO8; have hG8 : Gr w6 w8 := Below.trans (Below.trans hGz hB7) (hB8.mono (by omega)))
  have hr8 := hG8.rd hr6
  have hb8 := hG8.rd hb6
  have hGW := (hG1.trans hG6).trans hG8
  generalize w6.heap.size = g16 at h168 h17 ⊢
  clear hz1 hz2 hGz hB7 hB8 hG8 h16 h17z hr1 hb1 hr6 hb6 gw1 hvk1 c01
  go_wp2_with first
    | (refine wpList_load_mid rfl 22 (.tmp 16) rfl g16 0 rfl (u8s KK) _ h168.range Tryd.underlying22 rfl (infoU8_32 KK hKKl) ?_)
    | (refine wpList_load_mid rfl 68 (.tmp 17) rfl (g16 + 1) 0 rfl (u8s NN) _ h17.range Tryd.underlying68 rfl (info12 NN hNNl) ?_)
  refine (HO.out w8 hr8 hb8).mono ?_
  rintro r w9 ⟨hq, hB9⟩
  have hGF := hGW.trans hB9
  obtain ⟨hKe, hNe⟩ := HKN.out
  rcases hq with ⟨h, _⟩ | ⟨_, hne, rfl⟩ | ⟨_, he, A9, c9, rfl, hc9, hr9⟩
  · omega
  · have hop : v.opens e c k wi s ([], 6) := by
      unfold Vt.opens
      rw [if_neg (by omega), HI.out, if_neg (by simp), if_neg (by rw [← hKe, ← hNe]; exact hne)]
    clear hKe hNe
    go_wp2_with fail
    refine bodyPost_ret (results_tmp2 rfl _ _ _) rfl ?_
    exact ⟨⟨([], 6), hop, none, 0, rfl, Nat.le_refl _, Rd.nil _ _⟩, hGF⟩
  · have hop : v.opens e c k wi s (hideL KK NN (s.take (s.length - 16)), 0) := by
      unfold Vt.opens
      rw [if_neg (by omega), HI.out, if_neg (by simp), if_pos (by rw [← hKe, ← hNe]; exact he), hKe, hNe]
    have hl : (hideL KK NN (s.take (s.length - 16))).length = s.length - 16 := by simp
    clear hKe hNe
    obtain ⟨q, hq⟩ : ∃ q, q = s.length - 16 := ⟨_, rfl⟩
    obtain ⟨Y, hY⟩ : ∃ Y, Y = hideL KK NN (s.take (s.length - 16)) := ⟨_, rfl⟩
    rw [← hY] at hop hl hr9
    rw [← hq] at hl hr9 hc9 ⊢
    clear hY hq he
    go_wp2_with fail
    refine bodyPost_ret (results_tmp2 rfl _ _ _) rfl ?_
    exact ⟨⟨(Y, 0), hop, A9, c9, by rw [show (Y, 0).1.length = q from hl]; rfl, by rw [show (Y, 0).1.length = q from hl]; exact hc9, by rw [show (Y, 0).1.length = q from hl]; exact hr9⟩, hGF⟩
set_option maxRecDepth 100000 in
set_option maxHeartbeats 16000000 in
theorem vopen_ideal {τ : Nat → Obj → Bool} {B : Nat} {w : World} {g b1 b2 b3 : Nat} {v : Vt} (hV : VIs τ B w g b1 b2 b3 v) (hi : v.ideal = true) (e c k : Nat) (hR : Right e c k) (hbs : ∀ x ∈ v.L, x.b.length ≤ 9000)
    (A : Option Addr) (n cn : Nat) (wi : List UInt8) (D : Option Addr) (m dm : Nat) (s : List UInt8) (hn : n ≤ 9000) (hm16 : 16 ≤ m) (hm : m ≤ 9000) (hr : Rd w A n (u8s wi)) (hb : Rd w D m (u8s s)) :
    Calls Tryd.prog 15 #[.pointer (some ⟨g, 0, none⟩), .int .i64 (e : Int), .int .i64 (c : Int), .int .i64 (k : Int), .slice A n cn, .slice D m dm] w fun r w' => OpenR v e c k wi s r w' ∧ Gr w w' := by
  have HR := Lib.hid (right_yes e c k hR)
  have hbl : s.length = m := by simpa using hb.1
  have hwl : wi.length = n := by simpa using hr.1
  have hm16i : ¬ (m : Int) < 16 := by omega
  obtain ⟨r1, r2, r3, r4, r5, r6⟩ := hR
  obtain ⟨ks, hks⟩ := keyOf_seal (e := e) (c := c) (k := k) (wi := wi) (out := s) (by omega) (by omega) (by omega) (by omega) (by omega)
  have hzs : ∀ w, (zeroValue 27).run Tryd.prog w = .ok (.slice none 0 0) w := fun w => by kernel_rfl
  clear r1 r2 r3 r4 r5 r6
  go_enter Tryd.func15, Tryd.ntmps15
  go_wp2_with fail
  refine (HR.out w).mono ?_
  rintro r w0 ⟨rfl, hG1⟩
  have hV1 := hV.gr hG1
  have hr1 := hG1.rd hr
  have hb1 := hG1.rd hb
  have c0 := hV1.cell0
  rw [hi] at c0
  have c35 : w0.cell? ⟨g, 35, none⟩ = some (.map (some b3)) := hV1.cellN (i := 2) rfl
  obtain ⟨T, hM, hTR⟩ := hV1.table
  have hTR := hTR hi
  have HI := Lib.hid hi
  clear hV hr hb hi
  go_upto_region 6 with fail
  by_cases hx : ∃ x ∈ v.L, x.same e c k wi s
  · obtain ⟨x, hxm, hxs⟩ := hx
    obtain ⟨Ab, cb, hhit, hcb, hAb, hrb⟩ := hTR.hit x hxm
    have hbx := hbs x hxm
    have hkv : sealV x.epoch x.client x.counter x.wi x.out = sealV e c k wi s := by obtain ⟨h1, h2, h3, h4, h5⟩ := hxs; rw [h1, h2, h3, h4, h5]
    rw [hkv] at hhit
    have hop : v.opens e c k wi s (x.b, 0) := by
      unfold Vt.opens
      rw [if_neg (by omega), HI.out, if_pos rfl]
      exact .inl ⟨x, hxm, hxs, rfl⟩
    obtain ⟨q, hq⟩ : ∃ q, q = x.b.length := ⟨_, rfl⟩
    generalize x.b = bb at hop hq hhit hcb hrb hbx
    rw [← hq] at hhit hcb hrb hbx
    have hABn : Ab = none → q = 0 ∧ cb = 0 := fun h => ⟨by have := hAb h; omega, hAb h⟩
    have HQ := Lib.hid hq
    clear hq hkv
    refine wp_region_ssaL (by kernel_rfl) [IsV (.pointer (some ⟨g, 0, none⟩)), IsV (.pointer (some ⟨g, 0, none⟩)), IsV (.pointer (some ⟨g, 35, none⟩)), IsV (.map (some b3)), IsV (.int .i64 ((c : Nat) : Int)), IsV (.int .i64 ((k : Nat) : Int)), IsV (.agg #[.int .i64 (c : Int), .int .i64 (k : Int)]), IsV (.int .i64 ((e : Nat) : Int)), IsV (.slice A n cn), IsV (.string ⟨(wi).toArray⟩), IsV (.slice D m dm), IsV (.string ⟨(s).toArray⟩), IsV (sealV e c k wi s), IsV (.tuple #[.slice Ab q cb, .bool true]), IsV (.tuple #[.slice Ab q cb, .bool true]), IsV (.slice Ab q cb), IsV (.bool true), IsV (.slice Ab q cb), IsV (.bool true)] (by kernel_rfl) ?_ ?_ ?_
    · intro φ hφ v w1 w2 h hg
      simp only [List.mem_cons, List.not_mem_nil, or_false] at hφ
      rcases hφ with rfl | rfl | rfl | rfl | rfl | rfl | rfl | rfl | rfl | rfl | rfl | rfl | rfl | rfl | rfl | rfl | rfl | rfl | rfl
      all_goals first | exact h | exact RdV.gr h hg
    · refine ⟨?_, ?_, ?_, ?_, ?_, ?_, ?_, ?_, ?_, ?_, ?_, ?_, ?_, ?_, ?_, ?_, ?_, ?_, ?_, trivial⟩
      · intro a1 w1 hG hF
        exact s_old rfl (wants0 rfl) (.tmp 0) (.inr rfl) (.pointer (some ⟨g, 0, none⟩)) (hF.ol 0 (by kernel_rfl)) rfl
      · intro a1 w1 hG hF
        obtain ⟨_, e38, rfl⟩ := hF.dp 0 38 (by kernel_rfl)
        exact s_is rfl (wants0 rfl) _ rfl (run_nil e38)
      · intro a1 w1 hG hF
        obtain ⟨_, e39, rfl⟩ := hF.dp 1 39 (by kernel_rfl)
        exact s_is rfl (wants0 rfl) _ rfl (run_field (o := 35) (k := 0) Tryd.underlying58 rfl rfl (by kernel_rfl) e39)
      · intro a1 w1 hG hF
        obtain ⟨_, e40, rfl⟩ := hF.dp 2 40 (by kernel_rfl)
        exact s_is rfl (wants0 rfl) _ rfl (run_load1B (.inr (.inl ⟨_, _, Tryd.underlying56⟩)) e40 (Gr.cell ((Gr.drew w0).trans hG) c35))
      · intro a1 w1 hG hF
        exact s_old rfl (wants0 rfl) (.tmp 2) (.inr rfl) (.int .i64 ((c : Nat) : Int)) (hF.ol 2 (by kernel_rfl)) rfl
      · intro a1 w1 hG hF
        exact s_old rfl (wants0 rfl) (.tmp 3) (.inr rfl) (.int .i64 ((k : Nat) : Int)) (hF.ol 3 (by kernel_rfl)) rfl
      · intro a1 w1 hG hF
        obtain ⟨_, e42, rfl⟩ := hF.dp 4 42 (by kernel_rfl)
        obtain ⟨_, e43, rfl⟩ := hF.dp 5 43 (by kernel_rfl)
        exact s_is rfl (wants0 rfl) _ rfl (run_buildU e42 e43)
      · intro a1 w1 hG hF
        exact s_old rfl (wants0 rfl) (.tmp 1) (.inr rfl) (.int .i64 ((e : Nat) : Int)) (hF.ol 1 (by kernel_rfl)) rfl
      · intro a1 w1 hG hF
        exact s_old rfl (wants0 rfl) (.tmp 4) (.inr rfl) (.slice A n cn) (hF.ol 4 (by kernel_rfl)) rfl
      · intro a1 w1 hG hF
        obtain ⟨_, e46, rfl⟩ := hF.dp 8 46 (by kernel_rfl)
        exact s_str rfl (wants0 rfl) 27 9 5 (.tmp 46) rfl Tryd.underlying27 Tryd.underlying5 Tryd.underlying9 _ _ _ (wi) e46 (((Gr.drew w0).trans hG).rd hr1) rfl
      · intro a1 w1 hG hF
        exact s_old rfl (wants0 rfl) (.tmp 5) (.inr rfl) (.slice D m dm) (hF.ol 5 (by kernel_rfl)) rfl
      · intro a1 w1 hG hF
        obtain ⟨_, e48, rfl⟩ := hF.dp 10 48 (by kernel_rfl)
        exact s_str rfl (wants0 rfl) 27 9 5 (.tmp 48) rfl Tryd.underlying27 Tryd.underlying5 Tryd.underlying9 _ _ _ (s) e48 (((Gr.drew w0).trans hG).rd hb1) rfl
      · intro a1 w1 hG hF
        obtain ⟨_, e44, rfl⟩ := hF.dp 6 44 (by kernel_rfl)
        obtain ⟨_, e45, rfl⟩ := hF.dp 7 45 (by kernel_rfl)
        obtain ⟨_, e47, rfl⟩ := hF.dp 9 47 (by kernel_rfl)
        obtain ⟨_, e49, rfl⟩ := hF.dp 11 49 (by kernel_rfl)
        exact s_is rfl (wants0 rfl) _ rfl (run_buildS e44 e45 e47 e49)
      · intro a1 w1 hG hF
        obtain ⟨_, e41, rfl⟩ := hF.dp 3 41 (by kernel_rfl)
        obtain ⟨_, e50, rfl⟩ := hF.dp 12 50 (by kernel_rfl)
        exact s_is rfl (wants0 rfl) _ rfl (run_hit (hM.gr ((Gr.drew w0).trans hG)) keyedT Tryd.underlying56 e41 e50 hhit true)
      · intro a1 w1 hG hF
        exact s_same rfl (wants0 rfl) (.tmp 51) (.inr rfl) (hF.dp 13 51 (by kernel_rfl))
      · intro a1 w1 hG hF
        obtain ⟨_, e37, rfl⟩ := hF.dp 14 37 (by kernel_rfl)
        exact s_is rfl (wants0 rfl) _ rfl (by simp only [execOp, e37]; go_simp)
      · intro a1 w1 hG hF
        obtain ⟨_, e37, rfl⟩ := hF.dp 14 37 (by kernel_rfl)
        exact s_is rfl (wants0 rfl) _ rfl (by simp only [execOp, e37]; go_simp)
      · intro a1 w1 hG hF
        exact s_same rfl (wants0 rfl) (.tmp 52) (.inl rfl) (hF.dp 15 52 (by kernel_rfl))
      · intro a1 w1 hG hF
        exact s_same rfl (wants0 rfl) (.tmp 53) (.inl rfl) (hF.dp 16 53 (by kernel_rfl))
    · intro vs w1 hG hf
      have z14 : vs 17 = .slice Ab q cb := hf.2.2.2.2.2.2.2.2.2.2.2.2.2.2.2.2.2.1
      have z15 : vs 18 = .bool true := hf.2.2.2.2.2.2.2.2.2.2.2.2.2.2.2.2.2.2.1
      clear hf
      simp only [putAll, Nat.zero_add, Nat.reduceAdd, z14, z15]
      have hG2 := hG1.trans ((Gr.drew _).trans hG)
      have hrb2 := (hrb.gr ((Gr.drew _).trans hG)).rd
      generalize w1 = w3 at hG2 hrb2 ⊢
      clear hG hTR hM c0 c35 hr1 hb1
      go_simp
      go_wp2_with fail
      refine (bclone_any Ab q cb bb (by omega) w3 hrb2 hABn).mono ?_
      rintro r w4 ⟨y, rfl, ho4, hG4⟩
      obtain ⟨A4, c4, rfl, hc4, _⟩ := own_form ho4
      have hGF := hG2.trans hG4
      go_wp2_with fail
      refine bodyPost_ret (results_tmp2 rfl _ _ _) rfl ?_
      exact ⟨⟨(bb, 0), hop, A4, c4, by rw [show (bb, 0).1.length = q from HQ.out.symm]; rfl, by rw [show (bb, 0).1.length = q from HQ.out.symm]; exact hc4, by rw [show (bb, 0).1.length = q from HQ.out.symm]; exact Rd.of_own ho4⟩, hGF⟩
  · have hno : ∀ x ∈ v.L, ¬ x.same e c k wi s := fun x h1 h2 => hx ⟨x, h1, h2⟩
    have hop : v.opens e c k wi s ([], 6) := by
      unfold Vt.opens
      rw [if_neg (by omega), HI.out, if_pos rfl]
      exact .inr ⟨hno, rfl⟩
    have hnoT := hTR.no hno
    refine wp_region_ssaL (by kernel_rfl) [IsV (.pointer (some ⟨g, 0, none⟩)), IsV (.pointer (some ⟨g, 0, none⟩)), IsV (.pointer (some ⟨g, 35, none⟩)), IsV (.map (some b3)), IsV (.int .i64 ((c : Nat) : Int)), IsV (.int .i64 ((k : Nat) : Int)), IsV (.agg #[.int .i64 (c : Int), .int .i64 (k : Int)]), IsV (.int .i64 ((e : Nat) : Int)), IsV (.slice A n cn), IsV (.string ⟨(wi).toArray⟩), IsV (.slice D m dm), IsV (.string ⟨(s).toArray⟩), IsV (sealV e c k wi s), IsV (.tuple #[.slice none 0 0, .bool false]), IsV (.tuple #[.slice none 0 0, .bool false]), IsV (.slice none 0 0), IsV (.bool false), IsV (.slice none 0 0), IsV (.bool false)] (by kernel_rfl) ?_ ?_ ?_
    · intro φ hφ v w1 w2 h hg
      simp only [List.mem_cons, List.not_mem_nil, or_false] at hφ
      rcases hφ with rfl | rfl | rfl | rfl | rfl | rfl | rfl | rfl | rfl | rfl | rfl | rfl | rfl | rfl | rfl | rfl | rfl | rfl | rfl
      all_goals first | exact h | exact RdV.gr h hg
    · refine ⟨?_, ?_, ?_, ?_, ?_, ?_, ?_, ?_, ?_, ?_, ?_, ?_, ?_, ?_, ?_, ?_, ?_, ?_, ?_, trivial⟩
      · intro a1 w1 hG hF
        exact s_old rfl (wants0 rfl) (.tmp 0) (.inr rfl) (.pointer (some ⟨g, 0, none⟩)) (hF.ol 0 (by kernel_rfl)) rfl
      · intro a1 w1 hG hF
        obtain ⟨_, e38, rfl⟩ := hF.dp 0 38 (by kernel_rfl)
        exact s_is rfl (wants0 rfl) _ rfl (run_nil e38)
      · intro a1 w1 hG hF
        obtain ⟨_, e39, rfl⟩ := hF.dp 1 39 (by kernel_rfl)
        exact s_is rfl (wants0 rfl) _ rfl (run_field (o := 35) (k := 0) Tryd.underlying58 rfl rfl (by kernel_rfl) e39)
      · intro a1 w1 hG hF
        obtain ⟨_, e40, rfl⟩ := hF.dp 2 40 (by kernel_rfl)
        exact s_is rfl (wants0 rfl) _ rfl (run_load1B (.inr (.inl ⟨_, _, Tryd.underlying56⟩)) e40 (Gr.cell ((Gr.drew w0).trans hG) c35))
      · intro a1 w1 hG hF
        exact s_old rfl (wants0 rfl) (.tmp 2) (.inr rfl) (.int .i64 ((c : Nat) : Int)) (hF.ol 2 (by kernel_rfl)) rfl
      · intro a1 w1 hG hF
        exact s_old rfl (wants0 rfl) (.tmp 3) (.inr rfl) (.int .i64 ((k : Nat) : Int)) (hF.ol 3 (by kernel_rfl)) rfl
      · intro a1 w1 hG hF
        obtain ⟨_, e42, rfl⟩ := hF.dp 4 42 (by kernel_rfl)
        obtain ⟨_, e43, rfl⟩ := hF.dp 5 43 (by kernel_rfl)
        exact s_is rfl (wants0 rfl) _ rfl (run_buildU e42 e43)
      · intro a1 w1 hG hF
        exact s_old rfl (wants0 rfl) (.tmp 1) (.inr rfl) (.int .i64 ((e : Nat) : Int)) (hF.ol 1 (by kernel_rfl)) rfl
      · intro a1 w1 hG hF
        exact s_old rfl (wants0 rfl) (.tmp 4) (.inr rfl) (.slice A n cn) (hF.ol 4 (by kernel_rfl)) rfl
      · intro a1 w1 hG hF
        obtain ⟨_, e46, rfl⟩ := hF.dp 8 46 (by kernel_rfl)
        exact s_str rfl (wants0 rfl) 27 9 5 (.tmp 46) rfl Tryd.underlying27 Tryd.underlying5 Tryd.underlying9 _ _ _ (wi) e46 (((Gr.drew w0).trans hG).rd hr1) rfl
      · intro a1 w1 hG hF
        exact s_old rfl (wants0 rfl) (.tmp 5) (.inr rfl) (.slice D m dm) (hF.ol 5 (by kernel_rfl)) rfl
      · intro a1 w1 hG hF
        obtain ⟨_, e48, rfl⟩ := hF.dp 10 48 (by kernel_rfl)
        exact s_str rfl (wants0 rfl) 27 9 5 (.tmp 48) rfl Tryd.underlying27 Tryd.underlying5 Tryd.underlying9 _ _ _ (s) e48 (((Gr.drew w0).trans hG).rd hb1) rfl
      · intro a1 w1 hG hF
        obtain ⟨_, e44, rfl⟩ := hF.dp 6 44 (by kernel_rfl)
        obtain ⟨_, e45, rfl⟩ := hF.dp 7 45 (by kernel_rfl)
        obtain ⟨_, e47, rfl⟩ := hF.dp 9 47 (by kernel_rfl)
        obtain ⟨_, e49, rfl⟩ := hF.dp 11 49 (by kernel_rfl)
        exact s_is rfl (wants0 rfl) _ rfl (run_buildS e44 e45 e47 e49)
      · intro a1 w1 hG hF
        obtain ⟨_, e41, rfl⟩ := hF.dp 3 41 (by kernel_rfl)
        obtain ⟨_, e50, rfl⟩ := hF.dp 12 50 (by kernel_rfl)
        exact s_is rfl (wants0 rfl) _ rfl (run_miss (hM.gr ((Gr.drew w0).trans hG)) keyedT Tryd.underlying56 e41 e50 hks hnoT (hzs _) true)
      · intro a1 w1 hG hF
        exact s_same rfl (wants0 rfl) (.tmp 51) (.inr rfl) (hF.dp 13 51 (by kernel_rfl))
      · intro a1 w1 hG hF
        obtain ⟨_, e37, rfl⟩ := hF.dp 14 37 (by kernel_rfl)
        exact s_is rfl (wants0 rfl) _ rfl (by simp only [execOp, e37]; go_simp)
      · intro a1 w1 hG hF
        obtain ⟨_, e37, rfl⟩ := hF.dp 14 37 (by kernel_rfl)
        exact s_is rfl (wants0 rfl) _ rfl (by simp only [execOp, e37]; go_simp)
      · intro a1 w1 hG hF
        exact s_same rfl (wants0 rfl) (.tmp 52) (.inl rfl) (hF.dp 15 52 (by kernel_rfl))
      · intro a1 w1 hG hF
        exact s_same rfl (wants0 rfl) (.tmp 53) (.inl rfl) (hF.dp 16 53 (by kernel_rfl))
    · intro vs w1 hG hf
      have z14 : vs 17 = .slice none 0 0 := hf.2.2.2.2.2.2.2.2.2.2.2.2.2.2.2.2.2.1
      have z15 : vs 18 = .bool false := hf.2.2.2.2.2.2.2.2.2.2.2.2.2.2.2.2.2.2.1
      clear hf
      simp only [putAll, Nat.zero_add, Nat.reduceAdd, z14, z15]
      have hG2 := hG1.trans ((Gr.drew _).trans hG)
      generalize w1 = w3 at hG2 ⊢
      clear hG hTR hM c0 c35 hr1 hb1
      go_simp
      go_wp2_with fail
      refine bodyPost_ret (results_tmp2 rfl _ _ _) rfl ?_
      exact ⟨⟨([], 6), hop, none, 0, rfl, Nat.le_refl _, Rd.nil _ _⟩, hG2⟩
end Go.Proofs.YtnmhfomnlnlflaaDoor
/- The vault's two ways as one, what is sealed is opened, and the walk of the law's example. No condition. -/
namespace Go.Proofs.YtnmhfomnlnlflaaDoor
open Go.RowKit
/-- Maps may turn. -/
def mapT : Nat → Obj → Bool := fun _ o => match o with | .map _ _ => true | _ => false
theorem mapT_own {b1 b2 b3 : Nat} : ∀ k o, ownV b1 b2 b3 k o = true → mapT k o = true := by
  intro k o h
  cases o <;> simp_all [ownV, mapT]
theorem put_opens {v : Vt} {e c k : Nat} {wi b : List UInt8} {r : List UInt8 × Nat} (hns : ¬ v.spent c k) (h : (v.put e c k wi b).opens e c k wi (v.out e c k wi b) r) : r = (b, 0) := by
  unfold Vt.opens at h
  cases hi : v.ideal with
  | true =>
    have hl : ¬ (v.out e c k wi b).length < 16 := by rw [Vt.out, hi, if_pos rfl, drawL_length (by omega)]; omega
    rw [if_neg hl, if_pos (show (v.put e c k wi b).ideal = true from hi)] at h
    rcases h with ⟨x, hx, hs, rfl⟩ | ⟨hn, _⟩
    · rcases List.mem_append.1 hx with hx | hx
      · exact absurd ⟨x, hx, hs.2.1, hs.2.2.1⟩ hns
      · rw [List.mem_singleton.1 hx]
    · exact absurd ⟨rfl, rfl, rfl, rfl, rfl⟩ (hn _ (List.mem_append.2 (.inr (List.mem_singleton.2 rfl))))
  | false =>
    have ho : v.out e c k wi b = sealL (sealKL v.key e) (nonceL c k) wi b := by rw [Vt.out, hi]; rfl
    have hl : ¬ (v.out e c k wi b).length < 16 := by rw [ho, sealL_length]; omega
    rw [if_neg hl, if_neg (show ¬ (v.put e c k wi b).ideal = true by rw [show (v.put e c k wi b).ideal = v.ideal from rfl, hi]; simp)] at h
    rw [ho, sealL_length, show b.length + 16 - 16 = (hideL (sealKL v.key e) (nonceL c k) b).length by simp] at h
    unfold sealL at h
    rw [List.take_left, List.drop_left, show (v.put e c k wi b).key = v.key from rfl, if_pos rfl, hideL_twice] at h
    exact h
section
variable {τ : Nat → Obj → Bool} {B : Nat} {w : World} {g b1 b2 b3 : Nat} {v : Vt}
theorem vseal_any (hV : VIs τ B w g b1 b2 b3 v) (hτ : ∀ k o, ownV b1 b2 b3 k o = true → τ k o = true) (hτ2 : ∀ k C f, w.heap.size ≤ k → τ k (.cells C 5 f) = false) (e c k : Nat) (hR : Right e c k) (hs : ¬ v.spent c k)
    (A : Option Addr) (n cn : Nat) (wi : List UInt8) (D : Option Addr) (m dm : Nat) (b : List UInt8) (hn : n ≤ 900) (hm : m ≤ 900) (hmd : m ≤ dm) (hr : Rd w A n (u8s wi)) (hb : Rd w D m (u8s b)) (hDn : D = none → m = 0 ∧ dm = 0) (hL : v.L.length ≤ 100000) (gw : Glob w) :
    Calls Tryd.prog 13 #[.pointer (some ⟨g, 0, none⟩), .int .i64 (e : Int), .int .i64 (c : Int), .int .i64 (k : Int), .slice A n cn, .slice D m dm] w fun r w' => ∃ x, r = .returned (.tuple #[x, .int .i64 0]) ∧ w'.ownsRow w.heap.size 5 1 x (m + 16) (u8s (v.out e c k wi b)) ∧ VIs τ B w' g b1 b2 b3 (v.put e c k wi b) ∧ Tn (ownV b1 b2 b3) B w w' := by
  cases hi : v.ideal with
  | true => exact vseal_ideal hV hτ hτ2 hi e c k hR hs A n cn wi D m dm b hn hm hr hb hDn hL
  | false => exact vseal_real hV hτ hi e c k hR hs A n cn wi D m dm b hn hm hmd hr hb gw
theorem vopen_any (hV : VIs τ B w g b1 b2 b3 v) (e c k : Nat) (hR : Right e c k) (hbs : ∀ x ∈ v.L, x.b.length ≤ 9000)
    (A : Option Addr) (n cn : Nat) (wi : List UInt8) (D : Option Addr) (m dm : Nat) (s : List UInt8) (hn : n ≤ 9000) (hm16 : 16 ≤ m) (hm : m ≤ 9000) (hmd : m ≤ dm) (hr : Rd w A n (u8s wi)) (hb : Rd w D m (u8s s)) (gw : Glob w) :
    Calls Tryd.prog 15 #[.pointer (some ⟨g, 0, none⟩), .int .i64 (e : Int), .int .i64 (c : Int), .int .i64 (k : Int), .slice A n cn, .slice D m dm] w fun r w' => OpenR v e c k wi s r w' ∧ Gr w w' := by
  cases hi : v.ideal with
  | true => exact vopen_ideal hV hi e c k hR hbs A n cn wi D m dm s hn hm16 hm hr hb
  | false => exact vopen_real hV hi e c k hR A n cn wi D m dm s hn hm16 hm hmd hr hb gw
end
theorem Arr.tnV {b1 b2 b3 B : Nat} {w w' : World} {g : Nat} {t : TypeId} {cs : List Value} (h : Arr w g t cs) (hT : Tn (ownV b1 b2 b3) B w w') : Arr w' g t cs := h.tn hT (fun C f => by simp [ownV])
theorem Glob.tn {b1 b2 b3 B : Nat} {w w' : World} (h : Glob w) (hT : Tn (ownV b1 b2 b3) B w w') : Glob w' := by
  have hc : ∀ {p : Addr} {v : Value}, w.cell? p = some v → w'.cell? p = some v := fun {p v} hp => by
    have hl := lt_of_cell hp
    refine (World.cell?_of_block (hT.block _ hl (.inr ?_))).trans hp
    cases hb : w.heap[p.block]? with
    | none => rfl
    | some o =>
      cases o <;> simp [Turns, ownV]
      unfold World.cell? at hp
      rw [hb] at hp
      cases hp
  exact ⟨fun j v hj => hc (h.start j v hj), fun j v hj => hc (h.keys j v hj)⟩
set_option maxRecDepth 100000 in
set_option maxHeartbeats 8000000 in
theorem vaults_any (w : World) (gw : Glob w) : Calls Tryd.prog 10 #[] w fun e w' => e = .returned (.bool true) ∧ Gr w w' := by
  obtain ⟨K, hK⟩ : ∃ K : List UInt8, K = 1 :: List.replicate 31 0 := ⟨_, rfl⟩
  have hKl : K.length = 32 := by rw [hK]; rfl
  have HI : Hid (∀ w, Calls Tryd.prog 9 #[.agg #[.int .u8 1, .int .u8 0, .int .u8 0, .int .u8 0, .int .u8 0, .int .u8 0, .int .u8 0, .int .u8 0, .int .u8 0, .int .u8 0, .int .u8 0, .int .u8 0, .int .u8 0, .int .u8 0, .int .u8 0, .int .u8 0, .int .u8 0, .int .u8 0, .int .u8 0, .int .u8 0, .int .u8 0, .int .u8 0, .int .u8 0, .int .u8 0, .int .u8 0, .int .u8 0, .int .u8 0, .int .u8 0, .int .u8 0, .int .u8 0, .int .u8 0, .int .u8 0]] w fun e w' => ∃ g b1 b2 b3, e = .returned (.pointer (some ⟨g, 0, none⟩)) ∧ Gr w w' ∧ w.heap.size ≤ b1 ∧ b3 < w'.heap.size ∧ w.heap.size ≤ g ∧ ∀ τ B, B ≤ b1 → VIs τ B w' g b1 b2 b3 ⟨true, K, [], []⟩) := by
    intro w
    rw [hK]
    exact ideal_any (1 :: List.replicate 31 0) rfl w
  clear hK
  obtain ⟨X1, hX1⟩ : ∃ X, X = (⟨true, K, [], []⟩ : Vt).blind [120] := ⟨_, rfl⟩
  obtain ⟨X2, hX2⟩ : ∃ X, X = (⟨true, K, [[120]], []⟩ : Vt).blind [121] := ⟨_, rfl⟩
  obtain ⟨X3, hX3⟩ : ∃ X, X = (⟨true, K, [[120], [121]], []⟩ : Vt).out 1 1 1 [] [97, 98, 99] := ⟨_, rfl⟩
  have e1 : X1 = beL 8 1 ++ streamL K 0 (beL 4 0 ++ beL 8 1) (List.replicate 24 0) := by rw [hX1]; rfl
  have e2 : X2 = beL 8 2 ++ streamL K 0 (beL 4 0 ++ beL 8 2) (List.replicate 24 0) := by rw [hX2]; rfl
  have l1 : X1.length = 32 := by rw [e1]; simp [streamL_len]
  have l2 : X2.length = 32 := by rw [e2]; simp [streamL_len]
  have l3 : X3.length = 19 := by rw [hX3]; show (drawL _ _ _ _).length = 19; rw [drawL_length (by decide)]; rfl
  have c17 : X1[7]? = some 1 := by rw [e1, List.getElem?_append_left (by simp)]; rfl
  have c27 : X2[7]? = some 2 := by rw [e2, List.getElem?_append_left (by simp)]; rfl
  have n1 : (⟨true, K, [], []⟩ : Vt).named [120] = ⟨true, K, [[120]], []⟩ := by simp [Vt.named]
  have n2 : (⟨true, K, [[120]], []⟩ : Vt).named [121] = ⟨true, K, [[120], [121]], []⟩ := by simp [Vt.named]
  clear e1 e2
  have HX1 := Lib.hid hX1
  have HX2 := Lib.hid hX2
  have HX3 := Lib.hid hX3
  have HN1 := Lib.hid n1
  have HN2 := Lib.hid n2
  clear hX1 hX2 hX3 n1 n2
  go_enter Tryd.func10, Tryd.ntmps10
  go_wp2_with fail
  refine (HI.out w).mono ?_
  rintro e w1 ⟨g, b1, b2, b3, rfl, hG1, hb1, hb3, hg, hVA⟩
  have hV1 := hVA mapT w.heap.size hb1
  have gw1 := gw.gr hG1
  clear hVA HI
  have hcv := Lib.run_convert_bytes_const (P := Tryd.prog) w1 27 5 #[.int .u8 120] 1 1 Tryd.underlying27 Tryd.underlying5
  go_wp2_with fail
  refine (vblind_any (hV1.gr (Gr.alloc _ _)) mapT_own (some ⟨w1.heap.size, 0, none⟩) 1 1 [120] (by omega) (by omega) (Nat.le_refl _) (rd_made rfl _ _ _ 1 _ rfl rfl) (by simp) (gw1.gr (Gr.alloc _ _))).mono ?_
  rintro e w2 ⟨rfl, hV2, hT2⟩
  rw [HN1.out] at hV2
  rw [← HX1.out]
  have hT12 := (Tn.of_gr (τ := ownV b1 b2 b3) (B := w.heap.size) hG1).trans ((Tn.of_gr (Gr.alloc _ _)).trans hT2)
  have gw2 := (gw1.gr (Gr.alloc _ _)).tn hT2
  clear hcv hV1 gw1 hT2 hG1
  go_upto_region 3 with (refine wpList_new rfl 31 (.tmp 2) (.tmp 17) rfl _ (u8s X1) rfl rfl rfl (by simp only [u8s_length, l1]; rfl) (infoBl X1 l1) (u8s_oneCell _) ?_; intro w3 h2 hG3)
  have hV3 := hV2.gr hG3
  have gw3 := gw2.gr hG3
  have hT13 := hT12.gr hG3
  generalize w2.heap.size = g2 at h2 ⊢
  clear hV2 gw2 hT12 hG3
  have hcv := Lib.run_convert_bytes_const (P := Tryd.prog) w3 27 5 #[.int .u8 121] 1 1 Tryd.underlying27 Tryd.underlying5
  go_wp2_with fail
  refine (vblind_any (hV3.gr (Gr.alloc _ _)) mapT_own (some ⟨w3.heap.size, 0, none⟩) 1 1 [121] (by omega) (by omega) (Nat.le_refl _) (rd_made rfl _ _ _ 1 _ rfl rfl) (by simp) (gw3.gr (Gr.alloc _ _))).mono ?_
  rintro e w4 ⟨rfl, hV4, hT4⟩
  rw [HN2.out] at hV4
  rw [← HX2.out]
  have h24 := (h2.alloc _).tnV hT4
  have hT14 := hT13.trans ((Tn.of_gr (Gr.alloc _ _)).trans hT4)
  have gw4 := (gw3.gr (Gr.alloc _ _)).tn hT4
  clear hcv hV3 gw3 hT4 hT13 h2
  go_upto_region 4 with (refine wpList_new rfl 31 (.tmp 4) (.tmp 24) rfl _ (u8s X2) rfl rfl rfl (by simp only [u8s_length, l2]; rfl) (infoBl X2 l2) (u8s_oneCell _) ?_; intro w5 h4 hG5)
  have hV5 := hV4.gr hG5
  have h25 := h24.gr hG5
  have gw5 := gw4.gr hG5
  have hT15 := hT14.gr hG5
  generalize w4.heap.size = g4 at h4 ⊢
  clear hV4 gw4 hT14 hG5 h24
  have hcv := Lib.run_convert_bytes_const (P := Tryd.prog) w5 27 5 #[.int .u8 97, .int .u8 98, .int .u8 99] 3 3 Tryd.underlying27 Tryd.underlying5
  go_wp2_with fail
  refine (vseal_ideal (hV5.gr (Gr.alloc _ _)) mapT_own (fun _ _ _ _ => rfl) rfl 1 1 1 (by decide) (by simp [Vt.spent]) none 0 0 [] (some ⟨w5.heap.size, 0, none⟩) 3 3 [97, 98, 99] (by omega) (by omega) (Rd.nil _ _) (rd_made rfl _ _ _ 3 _ rfl rfl) (by simp) (by simp)).mono ?_
  rintro e w6 ⟨x6, rfl, ho6, hV6, hT6⟩
  rw [← HX3.out] at ho6
  obtain ⟨A6, c6, rfl, hc6, _⟩ := own_form ho6
  have hr6 := Rd.of_own ho6
  have h26 := (h25.alloc _).tnV hT6
  have h46 := (h4.alloc _).tnV hT6
  have hT16 := hT15.trans ((Tn.of_gr (Gr.alloc _ _)).trans hT6)
  clear hcv hV5 gw5 hT6 hT15 h25 h4
  go_wp2_with fail
  refine (vopen_ideal hV6 rfl 1 1 1 (by decide) (by simp [Vt.put]) none 0 0 [] A6 19 c6 X3 (by omega) (by omega) (by omega) (Rd.nil _ _) hr6).mono ?_
  rintro e w7 ⟨⟨r, hop, A7, c7, rfl, hc7, hr7⟩, hG7⟩
  rw [HX3.out] at hop
  have hr := put_opens (v := ⟨true, K, [[120], [121]], []⟩) (by simp [Vt.spent]) hop
  subst hr
  have hV7 := hV6.gr hG7
  have h27 := h26.gr hG7
  have h47 := h46.gr hG7
  have hT17 := hT16.gr hG7
  have c2 := h27.cell (i := 7) (u8s_at c17)
  have c4 := h47.cell (i := 7) (u8s_at c27)
  have hcs : (convert 27 9 (.slice A7 3 c7)).run Tryd.prog w7 = .ok (.string ⟨#[97, 98, 99]⟩) w7 := run_str (P := Tryd.prog) (c := c7) w7 Tryd.underlying27 Tryd.underlying5 Tryd.underlying9 hr7
  have HC := Lib.hid (count_any hV7)
  clear hop hr7 hr6 ho6 hV6 hT16 h26 h46 hG7 h27 h47
  go_wp2_with fail
  refine HC.out.mono ?_
  rintro e _ ⟨rfl, rfl⟩
  have hT9 := hT17.below (Nat.le_refl _)
  clear hT17 hV7
  go_wp2_with fail
  go_ret
  exact ⟨rfl, hT9⟩
end Go.Proofs.YtnmhfomnlnlflaaDoor
/- The walk of the reference's Open. No condition. -/
namespace Go.Proofs.YtnmhfomnlnlflaaDoor
open Go.RowKit
/-- What the reference's Open answers. -/
def ROpenQ (K N W s : List UInt8) (e : Ending) : Prop :=
  (s.length < 16 ∧ e = .returned (.tuple #[.string ⟨#[]⟩, .bool false])) ∨
  (16 ≤ s.length ∧ aTag K N W (s.take (s.length - 16)) ≠ s.drop (s.length - 16) ∧ e = .returned (.tuple #[.string ⟨#[]⟩, .bool false])) ∨
  (16 ≤ s.length ∧ aTag K N W (s.take (s.length - 16)) = s.drop (s.length - 16) ∧ e = .returned (.tuple #[.string ⟨(hideL K N (s.take (s.length - 16))).toArray⟩, .bool true]))
theorem run_lenStr {P : Program} {ev : Operand → Value} {d : Option Tmp} {t T : TypeId} {p : String} {af : Array Edge} {gd : Option (Nat × Bool)} {w : World} {x : Operand} {s : ByteArray} {n : Nat} (h1 : ev x = .string s) (hn : s.size = n) (hT : P.underlying T = some .string) :
    (execOp ev ⟨d, .call { callee := .builtin .len, args := #[x], argTypes := #[T] }, t, p, af, gd⟩).run P w = .ok (.value (.int .i64 (n : Int))) w := by
  subst hn
  simp only [execOp, resolve, invoke, List.map_toArray, List.map_cons, List.map_nil, h1]
  go_simp
theorem run_neS_f {P : Program} {ev : Operand → Value} {d : Option Tmp} {t T U : TypeId} {p : String} {af : Array Edge} {gd : Option (Nat × Bool)} {w : World} {x y : Operand} {a b : ByteArray} (he : a = b) (h1 : ev x = .string a) (h2 : ev y = .string b) :
    (execOp ev ⟨d, .binOp .neq T x y U, t, p, af, gd⟩).run P w = .ok (.value (.bool false)) w := by
  subst he
  simp only [execOp, h1, h2]
  go_simp
theorem bytes_of_toList {a b : ByteArray} (h : a.toList = b.toList) : a = b := by
  rw [ByteArray.toList_eq, ByteArray.toList_eq] at h
  exact ByteArray.ext (Array.toList_inj.1 h)
theorem run_neS_t {P : Program} {ev : Operand → Value} {d : Option Tmp} {t T U : TypeId} {p : String} {af : Array Edge} {gd : Option (Nat × Bool)} {w : World} {x y : Operand} {a b : ByteArray} (he : a ≠ b) (h1 : ev x = .string a) (h2 : ev y = .string b) :
    (execOp ev ⟨d, .binOp .neq T x y U, t, p, af, gd⟩).run P w = .ok (.value (.bool true)) w := by
  have h3 : ¬ a.toList = b.toList := fun h => he (bytes_of_toList h)
  simp only [execOp, h1, h2]
  go_simp
theorem str_inj {a b : List UInt8} : (⟨a.toArray⟩ : ByteArray) = ⟨b.toArray⟩ ↔ a = b := by
  constructor
  · intro h
    have := congrArg ByteArray.data h
    simpa using this
  · intro h; rw [h]
set_option maxRecDepth 100000 in
set_option maxHeartbeats 8000000 in
theorem rOpen_any (K : List UInt8) (hK : K.length = 32) (N : List UInt8) (hN : N.length = 12) (W s : List UInt8) (hW : W.length ≤ 90000) (hs : s.length ≤ 90000) (w : World) :
    Calls Tryd.prog 46 #[.string ⟨K.toArray⟩, .string ⟨N.toArray⟩, .string ⟨W.toArray⟩, .string ⟨s.toArray⟩] w fun e w' => ROpenQ K N W s e ∧ Below w.heap.size w w' := by
  obtain ⟨y, hy⟩ : ∃ k : ByteArray, k = ⟨s.toArray⟩ := ⟨_, rfl⟩
  have sy : y.size = s.length := by rw [hy]; rfl
  by_cases h16 : s.length < 16
  · have hlt : (y.size : Int) < 16 := by omega
    have HX := Lib.hid h16
    rw [← hy]
    clear hy sy h16
    go_enter Tryd.func46, Tryd.ntmps46
    go_wp2_with fail
    refine bodyPost_ret (results_tmp2 rfl _ _ _) rfl ?_
    exact ⟨.inl ⟨HX.out, rfl⟩, Below.refl _ _⟩
  · obtain ⟨j, hj⟩ : ∃ j : Nat, s.length = j + 16 := ⟨s.length - 16, by omega⟩
    have hji : (y.size : Int) - 16 = (j : Int) := by omega
    have hnn : ¬ (y.size : Int) < 16 := by omega
    have e1 : s.length - 16 = j := by omega
    obtain ⟨C, hC⟩ : ∃ C, C = s.take j := ⟨_, rfl⟩
    obtain ⟨E, hE⟩ : ∃ E, E = s.drop j := ⟨_, rfl⟩
    have hCl : C.length = j := by rw [hC, List.length_take]; omega
    obtain ⟨T, hT⟩ : ∃ T, T = aTag K N W C := ⟨_, rfl⟩
    have HQ1 : Hid (T ≠ E → ROpenQ K N W s (.returned (.tuple #[.string ⟨#[]⟩, .bool false]))) := fun h => .inr (.inl ⟨by omega, by rw [e1, ← hC, ← hE, ← hT]; exact h, rfl⟩)
    have HQ2 : Hid (T = E → ROpenQ K N W s (.returned (.tuple #[.string ⟨(hideL K N C).toArray⟩, .bool true]))) := fun h => .inr (.inr ⟨by omega, by rw [e1, ← hC, ← hE, ← hT]; exact h, by rw [e1, ← hC]⟩)
    obtain ⟨k, hk⟩ : ∃ k : ByteArray, k = ⟨K.toArray⟩ := ⟨_, rfl⟩
    obtain ⟨nn, hnn2⟩ : ∃ k : ByteArray, k = ⟨N.toArray⟩ := ⟨_, rfl⟩
    obtain ⟨x, hx⟩ : ∃ k : ByteArray, k = ⟨W.toArray⟩ := ⟨_, rfl⟩
    obtain ⟨cc, hcc⟩ : ∃ k : ByteArray, k = ⟨C.toArray⟩ := ⟨_, rfl⟩
    obtain ⟨t, ht⟩ : ∃ k : ByteArray, k = ⟨T.toArray⟩ := ⟨_, rfl⟩
    obtain ⟨u, hu⟩ : ∃ k : ByteArray, k = ⟨E.toArray⟩ := ⟨_, rfl⟩
    obtain ⟨r, hr⟩ : ∃ k : ByteArray, k = ⟨(hideL K N C).toArray⟩ := ⟨_, rfl⟩
    have HS : Hid (∀ w, Calls Tryd.prog 58 #[.string k, .int .u32 1, .string nn, .string cc] w fun e w' => e = .returned (.string r) ∧ Below w.heap.size w w') := by
      intro w
      rw [hr, hk, hnn2, hcc]
      exact refStream_any K hK 1 N hN C (by omega) w
    have HT : Hid (∀ w, Calls Tryd.prog 62 #[.string k, .string nn, .string x, .string cc] w fun e w' => e = .returned (.string t) ∧ Below w.heap.size w w') := by
      intro w
      rw [hk, hnn2, hx, hcc, ht, hT]
      exact rTag_any K hK N hN W C (by omega) (by omega) w
    have HC1 : Hid (∀ w, (Instr.slice 9 (.string y) none (some (.int .i64 (j : Int))) none).run Tryd.prog w = .ok (.string cc) w) := by
      intro w
      rw [hy, hcc, hC]
      exact run_cutS_h Tryd.underlying9 s j j rfl (by omega) w
    have HC2 : Hid (∀ w, (Instr.slice 9 (.string y) (some (.int .i64 (j : Int))) none none).run Tryd.prog w = .ok (.string u) w) := by
      intro w
      rw [hy, hu, hE]
      exact run_cutS_l Tryd.underlying9 s j j rfl (by omega) w
    have HI : Hid (t = u ↔ T = E) := by
      show _ ↔ _
      rw [ht, hu, str_inj]
    have HSZ : Hid (y.size = j + 16) := by show _ = _; omega
    rw [← hk, ← hnn2, ← hx, ← hy]
    rw [← hr] at HQ2
    have hcut := HC1.out
    have hjb : j ≤ 90000 := by omega
    have hjc : (j : Int) ≤ 90000 := by omega
    clear hk hnn2 hx hy hcc ht hu hr hT hC hE e1 sy h16 hj hCl hs hW
    go_enter Tryd.func46, Tryd.ntmps46
    go_wp2_with fail
    by_cases hTE : T = E
    · have HNE : Hid (t = u) := HI.out.2 hTE
      have HQ := Lib.hid (HQ2.out hTE)
      clear HI HQ1 HQ2 hTE hcut
      refine wp_region_ssaL (by kernel_rfl) [IsV (.string k), IsV (.string nn), IsV (.string x), IsV (.string cc), IsV (.string t), IsV (.string y), IsV (.string y), IsV (.int .i64 (((j + 16) : Nat) : Int)), IsV (.int .i64 ((j : Nat) : Int)), IsV (.string u), IsV (.bool false)] (by kernel_rfl) ?_ ?_ ?_
      · intro φ hφ v w1 w2 h hg
        simp only [List.mem_cons, List.not_mem_nil, or_false] at hφ
        rcases hφ with rfl | rfl | rfl | rfl | rfl | rfl | rfl | rfl | rfl | rfl | rfl
        all_goals first | exact h | exact RdV.gr h hg
      · refine ⟨?_, ?_, ?_, ?_, ?_, ?_, ?_, ?_, ?_, ?_, ?_, trivial⟩
        · intro a1 w1 hG hF
          exact s_old rfl (wants0 rfl) (.tmp 0) (.inr rfl) (.string k) (hF.ol 0 (by kernel_rfl)) rfl
        · intro a1 w1 hG hF
          exact s_old rfl (wants0 rfl) (.tmp 1) (.inr rfl) (.string nn) (hF.ol 1 (by kernel_rfl)) rfl
        · intro a1 w1 hG hF
          exact s_old rfl (wants0 rfl) (.tmp 2) (.inr rfl) (.string x) (hF.ol 2 (by kernel_rfl)) rfl
        · intro a1 w1 hG hF
          exact s_old rfl (wants0 rfl) (.tmp 10) (.inr rfl) (.string cc) (hF.ol 10 (by kernel_rfl)) rfl
        · intro a1 w1 hG hF
          obtain ⟨_, e19, rfl⟩ := hF.dp 0 19 (by kernel_rfl)
          obtain ⟨_, e20, rfl⟩ := hF.dp 1 20 (by kernel_rfl)
          obtain ⟨_, e21, rfl⟩ := hF.dp 2 21 (by kernel_rfl)
          obtain ⟨_, e22, rfl⟩ := hF.dp 3 22 (by kernel_rfl)
          exact s_call rfl (wants0 rfl) _ rfl _ _ (by simp only [execOp, resolve, invoke, List.map_toArray, List.map_cons, List.map_nil, e19, e20, e21, e22]; go_simp) ((HT.out w1).mono fun e w2 ⟨he, hb⟩ => ⟨_, he, rfl, hb⟩)
        · intro a1 w1 hG hF
          exact s_old rfl (wants0 rfl) (.tmp 3) (.inr rfl) (.string y) (hF.ol 3 (by kernel_rfl)) rfl
        · intro a1 w1 hG hF
          exact s_old rfl (wants0 rfl) (.tmp 3) (.inr rfl) (.string y) (hF.ol 3 (by kernel_rfl)) rfl
        · intro a1 w1 hG hF
          obtain ⟨_, e25, rfl⟩ := hF.dp 6 25 (by kernel_rfl)
          exact s_is rfl (wants0 rfl) _ rfl (run_lenStr e25 HSZ.out Tryd.underlying9)
        · intro a1 w1 hG hF
          obtain ⟨_, e26, rfl⟩ := hF.dp 7 26 (by kernel_rfl)
          exact s_is rfl (wants0 rfl) _ rfl (by rw [show ((j : Nat) : Int) = ((j + 16 - 16 : Nat) : Int) by omega]; exact run_subN (a := j + 16) (b := 16) e26 rfl (by omega) (by omega))
        · intro a1 w1 hG hF
          obtain ⟨_, e24, rfl⟩ := hF.dp 5 24 (by kernel_rfl)
          obtain ⟨_, e27, rfl⟩ := hF.dp 8 27 (by kernel_rfl)
          exact s_is rfl (wants0 rfl) _ rfl (by simp only [execOp, e24, e27, Option.map, Sem.run_bind]; rw [run_sliceAt_string _ _ _ _ _ _ Tryd.underlying9, HC2.out]; rfl)
        · intro a1 w1 hG hF
          obtain ⟨_, e23, rfl⟩ := hF.dp 4 23 (by kernel_rfl)
          obtain ⟨_, e28, rfl⟩ := hF.dp 9 28 (by kernel_rfl)
          exact s_is rfl (wants0 rfl) _ rfl (run_neS_f HNE.out e23 e28)
      · intro vs w1 hG hf
        have z29 : vs 10 = .bool false := hf.2.2.2.2.2.2.2.2.2.2.1
        clear hf
        simp only [putAll, Nat.zero_add, Nat.reduceAdd, z29]
        go_simp
        go_wp2_with fail
        refine (HS.out w1).mono ?_
        rintro e w2 ⟨rfl, hB2⟩
        have hG2 := (Gr.drew w).trans hG
        go_wp2_with fail
        refine bodyPost_ret (results_tmp2 rfl _ _ _) rfl ?_
        exact ⟨HQ.out, Below.trans hG2 (hB2.mono hG2.size)⟩
    · have HNE : Hid (t ≠ u) := fun h => hTE (HI.out.1 h)
      have HQ := Lib.hid (HQ1.out hTE)
      clear HI HQ1 HQ2 hTE hcut
      refine wp_region_ssaL (by kernel_rfl) [IsV (.string k), IsV (.string nn), IsV (.string x), IsV (.string cc), IsV (.string t), IsV (.string y), IsV (.string y), IsV (.int .i64 (((j + 16) : Nat) : Int)), IsV (.int .i64 ((j : Nat) : Int)), IsV (.string u), IsV (.bool true)] (by kernel_rfl) ?_ ?_ ?_
      · intro φ hφ v w1 w2 h hg
        simp only [List.mem_cons, List.not_mem_nil, or_false] at hφ
        rcases hφ with rfl | rfl | rfl | rfl | rfl | rfl | rfl | rfl | rfl | rfl | rfl
        all_goals first | exact h | exact RdV.gr h hg
      · refine ⟨?_, ?_, ?_, ?_, ?_, ?_, ?_, ?_, ?_, ?_, ?_, trivial⟩
        · intro a1 w1 hG hF
          exact s_old rfl (wants0 rfl) (.tmp 0) (.inr rfl) (.string k) (hF.ol 0 (by kernel_rfl)) rfl
        · intro a1 w1 hG hF
          exact s_old rfl (wants0 rfl) (.tmp 1) (.inr rfl) (.string nn) (hF.ol 1 (by kernel_rfl)) rfl
        · intro a1 w1 hG hF
          exact s_old rfl (wants0 rfl) (.tmp 2) (.inr rfl) (.string x) (hF.ol 2 (by kernel_rfl)) rfl
        · intro a1 w1 hG hF
          exact s_old rfl (wants0 rfl) (.tmp 10) (.inr rfl) (.string cc) (hF.ol 10 (by kernel_rfl)) rfl
        · intro a1 w1 hG hF
          obtain ⟨_, e19, rfl⟩ := hF.dp 0 19 (by kernel_rfl)
          obtain ⟨_, e20, rfl⟩ := hF.dp 1 20 (by kernel_rfl)
          obtain ⟨_, e21, rfl⟩ := hF.dp 2 21 (by kernel_rfl)
          obtain ⟨_, e22, rfl⟩ := hF.dp 3 22 (by kernel_rfl)
          exact s_call rfl (wants0 rfl) _ rfl _ _ (by simp only [execOp, resolve, invoke, List.map_toArray, List.map_cons, List.map_nil, e19, e20, e21, e22]; go_simp) ((HT.out w1).mono fun e w2 ⟨he, hb⟩ => ⟨_, he, rfl, hb⟩)
        · intro a1 w1 hG hF
          exact s_old rfl (wants0 rfl) (.tmp 3) (.inr rfl) (.string y) (hF.ol 3 (by kernel_rfl)) rfl
        · intro a1 w1 hG hF
          exact s_old rfl (wants0 rfl) (.tmp 3) (.inr rfl) (.string y) (hF.ol 3 (by kernel_rfl)) rfl
        · intro a1 w1 hG hF
          obtain ⟨_, e25, rfl⟩ := hF.dp 6 25 (by kernel_rfl)
          exact s_is rfl (wants0 rfl) _ rfl (run_lenStr e25 HSZ.out Tryd.underlying9)
        · intro a1 w1 hG hF
          obtain ⟨_, e26, rfl⟩ := hF.dp 7 26 (by kernel_rfl)
          exact s_is rfl (wants0 rfl) _ rfl (by rw [show ((j : Nat) : Int) = ((j + 16 - 16 : Nat) : Int) by omega]; exact run_subN (a := j + 16) (b := 16) e26 rfl (by omega) (by omega))
        · intro a1 w1 hG hF
          obtain ⟨_, e24, rfl⟩ := hF.dp 5 24 (by kernel_rfl)
          obtain ⟨_, e27, rfl⟩ := hF.dp 8 27 (by kernel_rfl)
          exact s_is rfl (wants0 rfl) _ rfl (by simp only [execOp, e24, e27, Option.map, Sem.run_bind]; rw [run_sliceAt_string _ _ _ _ _ _ Tryd.underlying9, HC2.out]; rfl)
        · intro a1 w1 hG hF
          obtain ⟨_, e23, rfl⟩ := hF.dp 4 23 (by kernel_rfl)
          obtain ⟨_, e28, rfl⟩ := hF.dp 9 28 (by kernel_rfl)
          exact s_is rfl (wants0 rfl) _ rfl (run_neS_t HNE.out e23 e28)
      · intro vs w1 hG hf
        have z29 : vs 10 = .bool true := hf.2.2.2.2.2.2.2.2.2.2.1
        clear hf
        simp only [putAll, Nat.zero_add, Nat.reduceAdd, z29]
        have hG2 := (Gr.drew w).trans hG
        go_simp
        go_wp2_with fail
        refine bodyPost_ret (results_tmp2 rfl _ _ _) rfl ?_
        exact ⟨HQ.out, hG2⟩
end Go.Proofs.YtnmhfomnlnlflaaDoor
