/- Texts of one proof, laid as one: part 23. No condition. -/
import Derived.Test.YtjpphldojbfpfaaGreatDoorZf02
import Derived.Test.YtjpphldojbfpfaaGreatDoorZf22
namespace Go.Proofs.YtjpphldojbfpfaaGreatDoor
open Go.RowKit
def HeadsOk (L : List Sec) (N t a c : Nat) : Prop := 1 ≤ t ∧ a ≤ 1 ∧ c ≤ areaN N * 64 ∧ L[t % 2]? = some (headS t a c) ∧ (L[(t + 1) % 2]? = some zeroSec ∨ ∃ a' c', 2 ≤ t ∧ a' ≤ 1 ∧ c' ≤ areaN N * 64 ∧ L[(t + 1) % 2]? = some (headS (t - 1) a' c'))
def AreaOk (L : List Sec) (N a : Nat) (b : List UInt8) : Prop := ∀ k, k * 64 < b.length → L[2 + a * areaN N + k]? = some (padSec (b.drop (k * 64)))
structure LogIs (w : World) (D : Dk) (lg t a : Nat) (b : List UInt8) (L : List Sec) (A : Option Addr) (c : Nat) : Prop where
  disk : DiskIs w D 0 L L none 0 0
  big : 4 ≤ D.N
  log : Arr w lg 101 (logC D.d t a A b.length c)
  own : w.ownsRow 0 5 1 (.slice A b.length c) b.length (u8s b)
  heads : HeadsOk L D.N t a b.length
  area : AreaOk L D.N a b
  fit : b.length ≤ areaN D.N * 64
  few : t ≤ 1000000
theorem LogIs.gr {w w' : World} {D : Dk} {lg t a : Nat} {b : List UInt8} {L : List Sec} {A : Option Addr} {c : Nat} (h : LogIs w D lg t a b L A c) (hG : Gr w w') : LogIs w' D lg t a b L A c :=
  ⟨h.disk.gr hG, h.big, h.log.gr hG, Gr.own hG h.own, h.heads, h.area, h.fit, h.few⟩
theorem LogIs.ins {S : Nat → Prop} {w w' : World} {D : Dk} {lg t a : Nat} {b : List UInt8} {L : List Sec} {A : Option Addr} {c : Nat} (h : LogIs w D lg t a b L A c) (hS : InS S w w') (h1 : ¬ S D.d) (h2 : ¬ S D.gn) (h3 : ¬ S D.gf) (h4 : ¬ S lg) (h5 : ∀ ad, A = some ad → ¬ S ad.block) : LogIs w' D lg t a b L A c :=
  ⟨h.disk.ins hS h1 h2 h3 (fun ad e => by cases e), h.big, hS.arr h.log h4, hS.own h.own h5, h.heads, h.area, h.fit, h.few⟩
theorem areaN_le {N : Nat} (h : N ≤ 8192) : areaN N ≤ 4095 := by unfold areaN; omega
theorem pad_same {l r : List UInt8} (h : 64 ≤ l.length) : padSec (l ++ r) = padSec l := by
  apply Subtype.ext
  unfold padSec; simp only; rw [List.append_assoc, List.take_append_of_le_length h, List.take_append_of_le_length h]
theorem HeadsOk.next {L L1 : List Sec} {N t a c a2 c2 : Nat} (h : HeadsOk L N t a c) (h1 : ∀ i, i < 2 → L1[i]? = L[i]?) (ha : a2 ≤ 1) (hc : c2 ≤ areaN N * 64) : HeadsOk (L1.set ((t + 1) % 2) (headS (t + 1) a2 c2)) N (t + 1) a2 c2 := by
  obtain ⟨h1t, h2, h3, h4, h5⟩ := h
  have hl : (t + 1) % 2 < L1.length := by
    obtain ⟨x, hx⟩ : ∃ x, L[(t + 1) % 2]? = some x := by
      rcases h5 with h5 | ⟨_, _, _, _, _, h5⟩
      · exact ⟨_, h5⟩
      · exact ⟨_, h5⟩
    rw [← h1 _ (Nat.mod_lt _ (by omega))] at hx; exact (List.getElem?_eq_some_iff.1 hx).1
  refine ⟨by omega, ha, hc, ?_, .inr ⟨a, c, by omega, h2, h3, ?_⟩⟩
  · rw [List.getElem?_set, if_pos rfl, if_pos hl]
  · rw [List.getElem?_set, if_neg (by omega), h1 _ (Nat.mod_lt _ (by omega)), show (t + 1 + 1) % 2 = t % 2 by omega, h4, Nat.add_sub_cancel]
theorem AreaOk.more {L L1 : List Sec} {N a lo hi t a2 c2 : Nat} {b r : List UInt8} (h : AreaOk L N a b) (hL : LayA L (2 + a * areaN N) lo hi (b ++ r) L1) (hlo : lo = b.length / 64) (hhi : (b ++ r).length ≤ hi * 64) : AreaOk (L1.set ((t + 1) % 2) (headS (t + 1) a2 c2)) N a (b ++ r) := by
  intro k hk; have hm : (t + 1) % 2 < 2 := Nat.mod_lt _ (by omega); rw [List.getElem?_set, if_neg (by omega), hL.2]
  by_cases hk2 : lo ≤ k
  · rw [if_pos (by omega), show 2 + a * areaN N + k - (2 + a * areaN N) = k by omega]
  · rw [if_neg (by omega), h k (by omega)]; congr 1
    rw [List.drop_append_of_le_length (by omega), pad_same (by rw [List.length_drop]; omega)]
section
variable {w : World} {D : Dk} {lg t a : Nat} {b : List UInt8} {L : List Sec} {A : Option Addr} {c : Nat}
set_option maxRecDepth 100000 in
set_option maxHeartbeats 8000000 in
theorem lleft_any (h : LogIs w D lg t a b L A c) : Calls Tryz.prog 73 #[.pointer (some ⟨lg, 0, none⟩)] w fun e w' => e = .returned (.int .i64 ((areaN D.N * 64 - b.length : Nat) : Int)) ∧ Gr w w' := by
  have HS := Lib.hid (fun w1 (h' : Gr w w1) => dsize_any (h.disk.gr h')); have HRo := Lib.hid (fun w1 => room_any D.N ⟨h.big, h.disk.few.2⟩ w1); have cd := h.log.cell (i := 0) (v := .pointer (some ⟨D.d, 0, none⟩)) rfl; have cb := h.log.cell (i := 3) (v := .slice A b.length c) rfl; have hf := h.fit; have ha8 := areaN_le h.disk.few.2; obtain ⟨n, hn⟩ : ∃ n, n = b.length := ⟨_, rfl⟩; obtain ⟨m, hm⟩ : ∃ m, m = areaN D.N * 64 := ⟨_, rfl⟩; rw [← hn] at cb hf; rw [← hm] at HRo hf; have hm8 : m ≤ 1000000 := by omega
  have HE : Hid (n = b.length ∧ m = areaN D.N * 64) := Lib.hid ⟨hn, hm⟩; clear h hn hm
  go_enter Tryz.func73, Tryz.ntmps73
  go_upto_region 3 with fail
  refine wp_region_ssaL (by kernel_rfl) [IsV (.pointer (some ⟨lg, 0, none⟩)), IsV (.pointer (some ⟨lg, 0, none⟩)), IsV (.pointer (some ⟨lg, 0, none⟩)), IsV (.pointer (some ⟨D.d, 0, none⟩)), IsV (.int .i64 ((D.N : Nat) : Int)), IsV (.int .i64 ((m : Nat) : Int)), IsV (.pointer (some ⟨lg, 0, none⟩)), IsV (.pointer (some ⟨lg, 0, none⟩)), IsV (.pointer (some ⟨lg, 3, none⟩)), IsV (.slice A n c), IsV (.int .i64 ((n : Nat) : Int)), IsV (.int .i64 ((m - n : Nat) : Int)), IsV (.int .i64 ((m - n : Nat) : Int))] (by kernel_rfl) ?_ ?_ ?_
  · intro φ hφ v w1 w2 h hg; simp only [List.mem_cons, List.not_mem_nil, or_false] at hφ; rcases hφ with rfl | rfl | rfl | rfl | rfl | rfl | rfl | rfl | rfl | rfl | rfl | rfl | rfl
    all_goals first | exact h | exact RdV.gr h hg
  · refine ⟨?_, ?_, ?_, ?_, ?_, ?_, ?_, ?_, ?_, ?_, ?_, ?_, ?_, trivial⟩
    · intro a1 w1 hG hF; exact s_old rfl (wants0 rfl) (.tmp 0) (.inr rfl) (.pointer (some ⟨lg, 0, none⟩)) (hF.ol 0 (by kernel_rfl)) rfl
    · intro a1 w1 hG hF; obtain ⟨_, e5, rfl⟩ := hF.dp 0 5 (by kernel_rfl); exact s_is rfl (wants0 rfl) _ rfl (run_nil e5)
    · intro a1 w1 hG hF; obtain ⟨_, e6, rfl⟩ := hF.dp 1 6 (by kernel_rfl); exact s_is rfl (wants0 rfl) _ rfl (run_fieldR (o := 0) (k := 0) Tryz.underlying101 rfl rfl (by kernel_rfl) e6)
    · intro a1 w1 hG hF; obtain ⟨_, e7, rfl⟩ := hF.dp 2 7 (by kernel_rfl); exact s_is rfl (wants0 rfl) _ rfl (run_load1B (.inr (.inr (.inr (.inr ⟨_, Tryz.underlying26⟩)))) e7 (Gr.cell ((Gr.drew w).trans hG) cd))
    · intro a1 w1 hG hF; obtain ⟨_, e8, rfl⟩ := hF.dp 3 8 (by kernel_rfl); exact s_call rfl (wants0 rfl) _ rfl _ _ (by simp only [execOp, resolve, invoke, List.map_toArray, List.map_cons, List.map_nil, e8]; go_simp) (((HS.out w1 ((Gr.drew w).trans hG))).mono fun e w2 ⟨he, hw⟩ => ⟨_, he, rfl, hw ▸ Gr.refl _⟩)
    · intro a1 w1 hG hF; obtain ⟨_, e9, rfl⟩ := hF.dp 4 9 (by kernel_rfl); exact s_call rfl (wants0 rfl) _ rfl _ _ (by simp only [execOp, resolve, invoke, List.map_toArray, List.map_cons, List.map_nil, e9]; go_simp) (((HRo.out w1)).mono fun e w2 ⟨he, hw⟩ => ⟨_, he, rfl, hw ▸ Gr.refl _⟩)
    · intro a1 w1 hG hF; exact s_old rfl (wants0 rfl) (.tmp 0) (.inr rfl) (.pointer (some ⟨lg, 0, none⟩)) (hF.ol 0 (by kernel_rfl)) rfl
    · intro a1 w1 hG hF; obtain ⟨_, e11, rfl⟩ := hF.dp 6 11 (by kernel_rfl); exact s_is rfl (wants0 rfl) _ rfl (run_nil e11)
    · intro a1 w1 hG hF; obtain ⟨_, e12, rfl⟩ := hF.dp 7 12 (by kernel_rfl); exact s_is rfl (wants0 rfl) _ rfl (run_fieldR (o := 3) (k := 0) Tryz.underlying101 rfl rfl (by kernel_rfl) e12)
    · intro a1 w1 hG hF; obtain ⟨_, e13, rfl⟩ := hF.dp 8 13 (by kernel_rfl); exact s_is rfl (wants0 rfl) _ rfl (run_load1B (.inr (.inr (.inr (.inl ⟨_, Tryz.underlying43⟩)))) e13 (Gr.cell ((Gr.drew w).trans hG) cb))
    · intro a1 w1 hG hF; obtain ⟨_, e14, rfl⟩ := hF.dp 9 14 (by kernel_rfl); exact s_is rfl (wants0 rfl) _ rfl (run_len_slice Tryz.underlying43 e14)
    · intro a1 w1 hG hF; obtain ⟨_, e10, rfl⟩ := hF.dp 5 10 (by kernel_rfl); obtain ⟨_, e15, rfl⟩ := hF.dp 10 15 (by kernel_rfl); exact s_is rfl (wants0 rfl) _ rfl (run_subN (a := m) (b := n) e10 e15 (by omega) (by omega))
    · intro a1 w1 hG hF; exact s_same rfl (wants0 rfl) (.tmp 16) (.inl rfl) (hF.dp 11 16 (by kernel_rfl))
  · intro vs w9 hG hf; have z2 : vs 12 = .int .i64 ((m - n : Nat) : Int) := hf.2.2.2.2.2.2.2.2.2.2.2.2.1; clear hf; simp only [putAll, Nat.zero_add, Nat.reduceAdd, z2]; have hGw : Gr w w9 := (Gr.drew w).trans hG; clear hG; go_simp; go_wp2_with fail
    go_ret
    obtain ⟨e1, e2⟩ := HE.out; exact ⟨by rw [← e1, ← e2]; rfl, hGw⟩
def AppendQ (D : Dk) (lg t a : Nat) (b : List UInt8) (w : World) (e : Ending) (w' : World) : Prop := ∃ L' A' c', e = .returned (.int .i64 0) ∧ LogIs w' D lg (t + 1) a b L' A' c' ∧ InS (fun i => i = D.d ∨ i = D.gn ∨ i = D.gf ∨ i = lg) w w' ∧ ∀ ad, A' = some ad → w.heap.size ≤ ad.block
set_option maxRecDepth 100000 in
set_option maxHeartbeats 16000000 in
theorem lappend_any {X : Option Addr} {n cX : Nat} {r : List UInt8} (h : LogIs w D lg t a b L A c) (hr : Rd w X n (u8s r)) (hrl : r.length = n) (hn : n ≤ 800000) (hfit : b.length + n + 8 ≤ areaN D.N * 64) (ht : t < 1000000) :
    Calls Tryz.prog 75 #[.pointer (some ⟨lg, 0, none⟩), .slice X n cX] w fun e w' => AppendQ D lg t a (b ++ recB r) w e w' := by
  obtain ⟨i0, hi0, hz0, hz1, hz2⟩ : ∃ i, Tryz.prog.info? 5 = some i ∧ i.zero = some (.int .u8 0) ∧ i.size = 1 ∧ i.bytes = 1 := by
    have h := Tryz.info5; cases hi : Tryz.prog.info? 5 with
    | none => rw [hi] at h; simp at h
    | some i => rw [hi] at h; simp at h; exact ⟨i, rfl, h.1, h.2.1, h.2.2⟩
  have ha8 := areaN_le h.disk.few.2; have ha1 : a ≤ 1 := h.heads.2.1; have H := Lib.hid h; have HSz := Lib.hid (lsize_any (c := cX) hr hrl hn); have HLe := Lib.hid (fun w1 (g : Gr w w1) => lleft_any (h.gr g)); have HB := Lib.hid (fun w1 (g : Gr w w1) => recb_any (c := cX) (g.rd hr) hrl hn); obtain ⟨nb, hnb⟩ : ∃ k, k = b.length := ⟨_, rfl⟩; obtain ⟨m, hm⟩ : ∃ m, m = areaN D.N * 64 := ⟨_, rfl⟩; rw [← hnb, ← hm] at hfit HLe; have hrn : (recB r).length = n + 8 := by rw [recB_len, hrl]
  have HRN := Lib.hid hrn; have hsz : ¬ ((m - nb : Nat) : Int) < ((n + 8 : Nat) : Int) := by omega
  have hm8 : m ≤ 262080 := by omega
  obtain ⟨q1, hq1⟩ : ∃ q, q = m - nb := ⟨_, rfl⟩; obtain ⟨q2, hq2⟩ : ∃ q, q = n + 8 := ⟨_, rfl⟩; rw [← hq1] at hsz HLe; rw [← hq2] at hsz HSz HRN; have cb := h.log.cell (i := 3) (v := .slice A nb c) (by rw [hnb]; rfl)
  have HCl := Lib.hid (fun w1 (g : Gr w w1) => clone_any A nb c b (by omega) w1 (g.rd (by rw [hnb]; exact Rd.of_own h.own)) (fun e => by
    obtain ⟨A', c', e1, _, e2, _⟩ := own_form3 h.own; injection e1 with e1 e3 e4
    rw [e4, hnb]; exact e2 (e1 ▸ e)))
  have HE : Hid (nb = b.length ∧ m = areaN D.N * 64 ∧ q2 = n + 8) := Lib.hid ⟨hnb, hm, hq2⟩; have hb8 : nb + q2 ≤ 262080 := by omega
  have HFit : Hid (nb + q2 ≤ areaN D.N * 64) := Lib.hid (by omega); have HBl : Hid ((b ++ recB r).length = nb + q2) := Lib.hid (by rw [List.length_append, hrn, hnb, hq2]); clear h hr hrl hnb hm hrn hfit hq1 hq2
  go_enter Tryz.func75, Tryz.ntmps75
  go_upto_region 5 with first
    | (go_at_call 72; refine HSz.out.mono ?_; rintro e w1 ⟨rfl, hG1⟩)
    | (go_at_call 73; refine (HLe.out w1 hG1).mono ?_; rintro e w2 ⟨rfl, hG2⟩)
  have hG02 := hG1.trans hG2; have cb2 := Gr.cell hG02 cb; clear HSz HLe hsz hG1 hG2 cb; go_wp2_with fail
  refine (HCl.out w2 hG02).mono ?_; rintro e w3 ⟨v3, rfl, ho3, hG3⟩; obtain ⟨A3, c3, rfl, hc3, _, _⟩ := own_form3 ho3; have hG03 := hG02.trans hG3; clear HCl cb2; go_wp2_with fail
  refine (HB.out w3 hG03).mono ?_; rintro e w4 ⟨A4, c4, rfl, ho4, hn4, hG4⟩; rw [HRN.out] at ho4 ⊢; have ho34 := Gr.own hG4 ho3; have hr4 := Rd.of_own ho4; have hB34 : Below w2.heap.size w2 w4 := hG3.trans (hG4.mono hG3.size); clear HB ho3 ho4
  go_upto_region 6 with (at_builtin; go_must (refine wpList_app _ rfl (.tmp 20) (.tmp 22) 43 rfl w2.heap.size 5 i0 (.int .u8 0) 1 Tryz.underlying43 hi0 hz0 hz1 hz2 rfl (.slice A3 nb c3) nb _ rfl ho34 A4 q2 c4 _ rfl hr4 (u8s_oneCell _) (by omega) (by unfold maxLen; omega) hB34.size ?_; intro v5 w5 hA5; obtain ⟨A5, c5, rfl, hc5, hn5, hr5⟩ := own_form3 hA5.own; have ho5 := hA5.own; have hB5 := hB34.trans (hA5.below ho34 hB34.size)))
  rw [← u8s_append] at ho5 hr5; have hG05 : Gr w w5 := hG02.trans hB5; have HO5 := Lib.hid ho5; have H5 := Lib.hid (H.out.gr hG05); have cd5 := H5.out.log.cell (i := 0) (v := .pointer (some ⟨D.d, 0, none⟩)) rfl; have ca5 := H5.out.log.cell (i := 2) (v := .int .i64 (a : Int)) rfl; have cb5 := H5.out.log.cell (i := 3) (v := .slice A nb c) (by rw [HE.out.1]; rfl)
  have hf5 : ∀ ad, A5 = some ad → ad.block ≠ D.d ∧ ad.block ≠ D.gn ∧ ad.block ≠ D.gf ∧ ad.block ≠ lg ∧ w.heap.size ≤ ad.block := fun ad e => by
    obtain ⟨R1, p1⟩ := H5.out.disk.now; obtain ⟨R2, p2⟩ := H5.out.disk.fast; refine ⟨own_arr_ne ho5 H5.out.disk.arr (by decide) ad e, own_arr_ne ho5 p1 (by decide) ad e, own_arr_ne ho5 p2 (by decide) ad e, own_arr_ne ho5 H5.out.log (by decide) ad e, ?_⟩; have := (ho5.lt ad.block (by rw [e]; rfl)).1; exact Nat.le_trans hG02.size this
  have HF5 := Lib.hid hf5; have HR5 := Lib.hid hr5; clear hA5 ho34 hr4 hB34 hB5 hG02 hG03 hG3 hG4 ho5 hf5 hn4 hn5 hr5; have HGw := Lib.hid hG05; clear hG05; refine wp_region_cut (by kernel_rfl) [IsV (.pointer (some ⟨lg, 0, none⟩)), IsV (.pointer (some ⟨lg, 0, none⟩)), IsV (.pointer (some ⟨lg, 0, none⟩)), IsV (.pointer (some ⟨lg, 2, none⟩)), IsV (.int .i64 ((a : Nat) : Int)), IsV (.slice A5 (nb + q2) c5), IsV (.pointer (some ⟨lg, 0, none⟩)), IsV (.pointer (some ⟨lg, 0, none⟩)), IsV (.pointer (some ⟨lg, 3, none⟩)), IsV (.slice A nb c), IsV (.int .i64 ((nb : Nat) : Int))] 11 (by decide) (by kernel_rfl) (by kernel_rfl) (by kernel_rfl) ?_ ?_ ?_
  · intro φ hφ v w1 w2 h hg; simp only [List.mem_cons, List.not_mem_nil, or_false] at hφ; rcases hφ with rfl | rfl | rfl | rfl | rfl | rfl | rfl | rfl | rfl | rfl | rfl
    all_goals first | exact h | exact RdV.gr h hg
  · refine ⟨?_, ?_, ?_, ?_, ?_, ?_, ?_, ?_, ?_, ?_, ?_, trivial⟩
    · intro a1 w1 hG hF; exact s_old rfl (wants0 rfl) (.tmp 0) (.inr rfl) (.pointer (some ⟨lg, 0, none⟩)) (hF.ol 0 (by kernel_rfl)) rfl
    · intro a1 w1 hG hF; exact s_old rfl (wants0 rfl) (.tmp 0) (.inr rfl) (.pointer (some ⟨lg, 0, none⟩)) (hF.ol 0 (by kernel_rfl)) rfl
    · intro a1 w1 hG hF; obtain ⟨_, e25, rfl⟩ := hF.dp 1 25 (by kernel_rfl); exact s_is rfl (wants0 rfl) _ rfl (run_nil e25)
    · intro a1 w1 hG hF; obtain ⟨_, e26, rfl⟩ := hF.dp 2 26 (by kernel_rfl); exact s_is rfl (wants0 rfl) _ rfl (run_fieldR (o := 2) (k := 0) Tryz.underlying101 rfl rfl (by kernel_rfl) e26)
    · intro a1 w1 hG hF; obtain ⟨_, e27, rfl⟩ := hF.dp 3 27 (by kernel_rfl); exact s_is rfl (wants0 rfl) _ rfl (run_load1 Tryz.underlying3 e27 (Gr.cell ((Gr.drew w5).trans hG) ca5))
    · intro a1 w1 hG hF; exact s_old rfl (wants0 rfl) (.tmp 5) (.inr rfl) (.slice A5 (nb + q2) c5) (hF.ol 5 (by kernel_rfl)) rfl
    · intro a1 w1 hG hF; exact s_old rfl (wants0 rfl) (.tmp 0) (.inr rfl) (.pointer (some ⟨lg, 0, none⟩)) (hF.ol 0 (by kernel_rfl)) rfl
    · intro a1 w1 hG hF; obtain ⟨_, e30, rfl⟩ := hF.dp 6 30 (by kernel_rfl); exact s_is rfl (wants0 rfl) _ rfl (run_nil e30)
    · intro a1 w1 hG hF; obtain ⟨_, e31, rfl⟩ := hF.dp 7 31 (by kernel_rfl); exact s_is rfl (wants0 rfl) _ rfl (run_fieldR (o := 3) (k := 0) Tryz.underlying101 rfl rfl (by kernel_rfl) e31)
    · intro a1 w1 hG hF; obtain ⟨_, e32, rfl⟩ := hF.dp 8 32 (by kernel_rfl); exact s_is rfl (wants0 rfl) _ rfl (run_load1B (.inr (.inr (.inr (.inl ⟨_, Tryz.underlying43⟩)))) e32 (Gr.cell ((Gr.drew w5).trans hG) cb5))
    · intro a1 w1 hG hF; obtain ⟨_, e33, rfl⟩ := hF.dp 9 33 (by kernel_rfl); exact s_is rfl (wants0 rfl) _ rfl (run_len_slice Tryz.underlying43 e33)
  · intro vs w9 hG hf; have z24 : vs 0 = .pointer (some ⟨lg, 0, none⟩) := hf.1; have z28 : vs 4 = .int .i64 ((a : Nat) : Int) := hf.2.2.2.2.1; have z29 : vs 5 = .slice A5 (nb + q2) c5 := hf.2.2.2.2.2.1; have z34 : vs 10 = .int .i64 ((nb : Nat) : Int) := hf.2.2.2.2.2.2.2.2.2.2.1; clear hf; simp only [List.take_succ_cons, List.take_zero, List.drop_succ_cons, List.drop_zero, putAll, Nat.zero_add, Nat.reduceAdd, z24, z28, z29, z34]; have hG9 : Gr w5 w9 := (Gr.drew w5).trans hG; have HW := Lib.hid (lwrite_any (w := w9) (cb := c5) (fr := nb) (H5.out.disk.gr hG9) H5.out.big (H5.out.log.gr hG9) ha1 (hG9.rd HR5.out) HBl.out hc5 (fun ad e => ⟨(HF5.out ad e).1, (HF5.out ad e).2.1, (HF5.out ad e).2.2.1⟩) HFit.out (by omega)); have hl9 := H5.out.log.gr hG9; clear hG z24 z28 z29 z34 cd5 ca5 cb5; unfold wpList; go_simp; refine .inl (HW.out.mono ?_); rintro e w6 ⟨hi, hh1, hh2, hh3, L', rfl, hLay, hD6, hI6⟩
    have hlne : lg ≠ D.d ∧ lg ≠ D.gn ∧ lg ≠ D.gf := by
      obtain ⟨R1, p1⟩ := H5.out.disk.now; obtain ⟨R2, p2⟩ := H5.out.disk.fast; exact ⟨arr_ne H5.out.log H5.out.disk.arr (by decide), arr_ne H5.out.log p1 (by decide), arr_ne H5.out.log p2 (by decide)⟩
    have hl6 := hI6.arr hl9 (fun e => by rcases e with e | e | e; exact hlne.1 e; exact hlne.2.1 e; exact hlne.2.2 e); have HO6 := Lib.hid (hI6.own (Gr.own hG9 HO5.out) (fun ad e q => by rcases q with q | q | q; exact (HF5.out ad e).1 q; exact (HF5.out ad e).2.1 q; exact (HF5.out ad e).2.2.1 q)); have ca6 := hl6.cell (i := 2) (v := .int .i64 (a : Int)) rfl; have HC := Lib.hid (lclose_any (a := a) (A2 := A5) (n2 := nb + q2) (c2 := c5) hD6 H5.out.big hl6 (by omega) ha1 (by omega)); have HI6 := Lib.hid (((InS.of_gr (HGw.out.trans hG9)).trans hI6).wide (T := fun i => i = D.d ∨ i = D.gn ∨ i = D.gf ∨ i = lg) (fun i h => by rcases h with h | h | h; exact .inl h; exact .inr (.inl h); exact .inr (.inr (.inl h)))); have HLay := Lib.hid hLay; clear HW hl6 hl9 hD6 hI6 hLay; refine wpList_valW rfl (.int .i64 0) w6 (by simp only [execOp]; go_simp) ?_; unfold wpList; go_simp
    go_wp2_with (go_at_call 30; refine HC.out.mono ?_; rintro e w7 ⟨rfl, hD7, hl7, hI7⟩)
    go_ret
    have e1 := HBl.out; have hlo : nb / 64 = b.length / 64 := by rw [HE.out.1]
    refine ⟨_, A5, c5, rfl, ⟨hD7, H5.out.big, by rw [e1]; exact hl7, ?_, ?_, ?_, ?_, by omega⟩, HI6.out.trans hI7, fun ad e => (HF5.out ad e).2.2.2.2⟩
    · rw [e1]; exact own_downS (hI7.own HO6.out (fun ad e q => by rcases q with q | q | q | q; exact (HF5.out ad e).1 q; exact (HF5.out ad e).2.1 q; exact (HF5.out ad e).2.2.1 q; exact (HF5.out ad e).2.2.2.1 q)) (Nat.zero_le _)
    · rw [e1]; refine H5.out.heads.next (fun i hi2 => ?_) ha1 HFit.out; rw [HLay.out.2, if_neg (by omega)]
    · exact H5.out.area.more HLay.out hlo (by rw [e1]; exact hh2)
    · rw [e1]; exact HFit.out
end
end Go.Proofs.YtjpphldojbfpfaaGreatDoor
