/- The reference's vault in memory; the walk of its Blind. No condition. -/
import Derived.Test.YtnmhfomnlnlflaaDoorVRefA
import Derived.Laws.AppendOwn
import Derived.Lib.BufferWrite
import Derived.Test.YtnmhfomnlnlflaaDoorAppT
namespace Go.Proofs.YtnmhfomnlnlflaaDoor
open Go.RowKit
/-- What the reference may turn: its record, its rows. -/
def refT : Nat → Obj → Bool := fun _ o => match o with | .cells _ t _ => t == 48 || t == 9 || t == 78 | _ => false
/-- A sealing's cells. -/
def sealC (s : Sealing) : List Value := [.int .i64 (s.epoch : Int), .int .i64 (s.client : Int), .int .i64 (s.counter : Int), strV s.wi, strV s.b, strV s.out]
/-- At g lies the reference's vault, above B. -/
structure RIs (B : Nat) (w : World) (g : Nat) (v : Vt) : Prop where
  lo : B ≤ g
  len : v.key.length = 32
  mem : ∃ A n D m, Arr w g 48 [.bool v.ideal, strV v.key, .slice A v.names.length n, .slice D v.L.length m] ∧ w.ownsRow B 9 1 (.slice A v.names.length n) v.names.length (v.names.map strV) ∧
    w.ownsRow B 78 6 (.slice D v.L.length m) v.L.length (v.L.flatMap sealC)
section
variable {τ : Nat → Obj → Bool} {B : Nat} {w w' : World} {g : Nat} {v : Vt}
theorem own_tn {base : Nat} {e : TypeId} {size : Nat} {A : Option Addr} {n c : Nat} {xs : List Value} (h : w.ownsRow base e size (.slice A n c) n xs) (hT : Tn τ B w w') (ht : ∀ k C f, τ k (.cells C e f) = false) : w'.ownsRow base e size (.slice A n c) n xs := by
  refine ⟨h.1, ?_⟩
  rcases h.2 with h2 | ⟨g, cap, cur, e1, h1, h2, h3⟩
  · exact .inl h2
  · exact .inr ⟨g, cap, cur, e1, h1, by rw [hT.block g (Array.getElem?_eq_some_iff.1 h2).1 (.inr (by rw [h2]; exact ht _ _ _))]; exact h2, h3⟩
theorem RIs.tn (h : RIs B w g v) (hT : Tn τ B w w') (h1 : ∀ k C f, τ k (.cells C 48 f) = false) (h2 : ∀ k C f, τ k (.cells C 9 f) = false) (h3 : ∀ k C f, τ k (.cells C 78 f) = false) : RIs B w' g v := by
  obtain ⟨A, n, D, m, a1, a2, a3⟩ := h.mem
  exact ⟨h.lo, h.len, A, n, D, m, a1.tn hT (fun C f => h1 _ C f), own_tn a2 hT h2, own_tn a3 hT h3⟩
theorem RIs.gr (h : RIs B w g v) (hG : Gr w w') : RIs B w' g v := h.tn (τ := fun _ _ => false) (Tn.of_gr hG) (fun _ _ _ => rfl) (fun _ _ _ => rfl) (fun _ _ _ => rfl)
end
set_option maxRecDepth 100000 in
set_option maxHeartbeats 4000000 in
theorem docBlind_no (g : Nat) (nm : List UInt8) (h : nm.length < 1 ∨ 64 < nm.length) (w : World) :
    Calls Tryd.prog 28 #[.pointer (some ⟨g, 0, none⟩), .string ⟨nm.toArray⟩] w fun e w' => e = .returned (.tuple #[.string ⟨#[]⟩, .int .i64 1]) ∧ Gr w w' := by
  obtain ⟨s, hs⟩ : ∃ s : ByteArray, s = ⟨nm.toArray⟩ := ⟨_, rfl⟩
  have hss : s.size = nm.length := by rw [hs]; rfl
  have HN := Lib.hid (rname_no (nm.length : Int) (by omega))
  rw [← hs]
  clear hs
  go_enter Tryd.func28, Tryd.ntmps28
  go_wp2_with fail
  refine (HN.out w).mono ?_
  rintro r _ ⟨rfl, rfl⟩
  go_wp2_with fail
  refine bodyPost_ret (results_tmp2 rfl _ _ _) rfl ?_
  exact ⟨rfl, Gr.refl _⟩
set_option maxRecDepth 100000 in
set_option maxHeartbeats 8000000 in
theorem docBlind_real {B : Nat} {w : World} {g : Nat} {v : Vt} (hR : RIs B w g v) (hi : v.ideal = false) (nm : List UInt8) (h1 : 1 ≤ nm.length) (h2 : nm.length ≤ 64) :
    Calls Tryd.prog 28 #[.pointer (some ⟨g, 0, none⟩), .string ⟨nm.toArray⟩] w fun e w' => e = .returned (.tuple #[.string ⟨(v.blind nm).toArray⟩, .int .i64 0]) ∧ Gr w w' := by
  have hKl := hR.len
  obtain ⟨X, hX⟩ : ∃ X, X = v.blind nm := ⟨_, rfl⟩
  have hXe : X = blindL v.key nm := by rw [hX, Vt.blind, hi]; rfl
  obtain ⟨s, hs⟩ : ∃ s : ByteArray, s = ⟨nm.toArray⟩ := ⟨_, rfl⟩
  have hss : s.size = nm.length := by rw [hs]; rfl
  have HN := Lib.hid (rname_yes (nm.length : Int) (by omega) (by omega))
  obtain ⟨kk, hkk⟩ : ∃ s : ByteArray, s = ⟨v.key.toArray⟩ := ⟨_, rfl⟩
  have HB : Hid (∀ w, Calls Tryd.prog 40 #[.string kk, .string s] w fun r w' => r = .returned (.string ⟨X.toArray⟩) ∧ Below w.heap.size w w') := by
    intro w
    rw [hXe, hs, hkk]
    exact refBlind_any v.key nm hKl (by omega) w
  obtain ⟨A, n, D, m, a1, _, _⟩ := hR.mem
  have c0 : w.cell? ⟨g, 0, none⟩ = some (.bool v.ideal) := a1.cell rfl
  have c1 : w.cell? ⟨g, 1, none⟩ = some (.string kk) := by rw [hkk]; exact a1.cell rfl
  rw [hi] at c0
  rw [← hs, ← hX]
  clear hs hX hXe hkk a1 hR hi
  go_enter Tryd.func28, Tryd.ntmps28
  go_wp2_with fail
  refine (HN.out w).mono ?_
  rintro r _ ⟨rfl, rfl⟩
  go_wp2_with fail
  refine (HB.out w).mono ?_
  rintro r w1 ⟨rfl, hB1⟩
  go_wp2_with fail
  refine bodyPost_ret (results_tmp2 rfl _ _ _) rfl ?_
  exact ⟨rfl, hB1⟩
theorem Tn.cell {τ : Nat → Obj → Bool} {B : Nat} {w : World} {g : Nat} {t : TypeId} {cs : List Value} (h : Arr w g t cs) (hB : B ≤ g) (hm : ∀ C f, τ g (.cells C t f) = true) (i : Nat) (u : Value) : Tn τ B w (w.setCell ⟨g, i, none⟩ u) := by
  have hg := Lib.grownBy_setCell w g i u
  have h2 := h.set i u
  refine ⟨hg.os, hg.tape, hg.output, hg.size, fun k hk ho => ?_, fun k hk => ?_⟩
  · refine hg.block k hk fun e => ?_
    injection e with e
    subst e
    rcases ho with ho | ho
    · omega
    · rw [h] at ho
      simp [Turns, hm] at ho
  · by_cases e : k = g
    · subst e
      rw [h2, h]
      simp [Turns, hm]
    · rw [hg.block k hk fun e2 => e (Option.some.inj e2)]
theorem place_new {v : Vt} {nm : List UInt8} (h : nm ∉ v.names) : v.place nm = v.names.length + 1 := by
  rw [Vt.place, List.idxOf_eq_length h]
theorem own_at1 {w : World} {B : Nat} {e : TypeId} {A : Option Addr} {n c : Nat} {xs : List Value} (h : w.ownsRow B e 1 (.slice A n c) n xs) {k : Nat} {u : Value} (hk : k < n) (hu : xs[k]? = some u) : ∃ gN, A = some ⟨gN, 0, none⟩ ∧ w.cell? ⟨gN, k, none⟩ = some u := by
  have hrd := Rd.of_own h
  rcases h.2 with ⟨_, e2⟩ | ⟨gN, cap, cur, e1, _⟩
  · omega
  · injection e1 with e1
    subst e1
    obtain ⟨ad, ea, hc⟩ := hrd.2 k u hu
    injection ea with ea
    subst ea
    rw [add_row, Nat.zero_add] at hc
    exact ⟨gN, rfl, hc⟩
theorem place_at {v : Vt} {nm : List UInt8} {k : Nat} (hk : v.names[k]? = some nm) (hno : ∀ j, j < k → v.names[j]? ≠ some nm) : v.place nm = k + 1 := by
  obtain ⟨hl, he⟩ := List.getElem?_eq_some_iff.1 hk
  have hm : nm ∈ v.names := List.mem_of_getElem? hk
  have h1 := List.idxOf_lt_length_of_mem hm
  have h2 : v.names[v.names.idxOf nm]? = some nm := by rw [List.getElem?_eq_getElem h1, List.getElem_idxOf h1]
  rw [Vt.place]
  rcases Nat.lt_trichotomy (v.names.idxOf nm) k with h | h | h
  · exact absurd h2 (hno _ h)
  · omega
  · exfalso
    have h3 := @List.not_of_lt_findIdx _ (fun x => x == nm) v.names k h
    simp only [he, beq_self_eq_true] at h3
    cases h3
set_option maxRecDepth 100000 in
set_option maxHeartbeats 16000000 in
theorem docBlind_ideal {B : Nat} {w : World} {g : Nat} {v : Vt} (hR : RIs B w g v) (hi : v.ideal = true) (nm : List UInt8) (h1 : 1 ≤ nm.length) (h2 : nm.length ≤ 64) (hnl : v.names.length ≤ 1000) (hB : B ≤ w.heap.size) :
    Calls Tryd.prog 28 #[.pointer (some ⟨g, 0, none⟩), .string ⟨nm.toArray⟩] w fun e w' => e = .returned (.tuple #[.string ⟨(v.blind nm).toArray⟩, .int .i64 0]) ∧ RIs B w' g (v.named nm) ∧ Tn refT B w w' := by
  obtain ⟨i0, hi0, hz0, hz1, hz2⟩ := info_parts (P := Tryd.prog) (e := 9) (z := .string ⟨#[]⟩) (size := 1) (bytes := 16) (by kernel_rfl)
  have hKl := hR.len
  obtain ⟨X, hX⟩ : ∃ X, X = v.blind nm := ⟨_, rfl⟩
  have hXe : X = drawL v.key 0 (v.place nm) 32 := by rw [hX, Vt.blind, hi]; rfl
  obtain ⟨s, hs⟩ : ∃ s : ByteArray, s = ⟨nm.toArray⟩ := ⟨_, rfl⟩
  have hss : s.size = nm.length := by rw [hs]; rfl
  have HN := Lib.hid (rname_yes (nm.length : Int) (by omega) (by omega))
  obtain ⟨kk, hkk⟩ : ∃ s : ByteArray, s = ⟨v.key.toArray⟩ := ⟨_, rfl⟩
  have HD : Hid (∀ (n : Nat) w, n ≤ 100000 → Calls Tryd.prog 41 #[.string kk, .int .i64 0, .int .i64 (n : Int), .int .i64 32] w fun r w' => r = .returned (.string ⟨(drawL v.key 0 n 32).toArray⟩) ∧ Gr w w') := by
    intro n w hn
    rw [hkk]
    exact rdraw_any v.key hKl 0 n 32 (by omega) (by omega) (by omega) (by omega) w
  obtain ⟨A, cA, D, cD, a1, a2, a3⟩ := hR.mem
  have hBg := hR.lo
  obtain ⟨len, hlen⟩ : ∃ n, n = v.names.length := ⟨_, rfl⟩
  rw [← hlen] at a1 a2
  have c0 : w.cell? ⟨g, 0, none⟩ = some (.bool v.ideal) := a1.cell rfl
  have c1 : w.cell? ⟨g, 1, none⟩ = some (.string kk) := by rw [hkk]; exact a1.cell rfl
  have c2 : w.cell? ⟨g, 2, none⟩ = some (.slice A len cA) := a1.cell rfl
  rw [hi] at c0
  rw [← hs, ← hX]
  have HSN := Lib.hid hs
  have HKK := Lib.hid hkk
  have HXE := Lib.hid hXe
  have HIV := Lib.hid hi
  have hlb : len ≤ 1000 := by omega
  have HLN := Lib.hid hlen
  clear hs hX hXe hkk hi hnl hlen
  go_enter Tryd.func28, Tryd.ntmps28
  go_wp2_with fail
  refine (HN.out w).mono ?_
  rintro r _ ⟨rfl, rfl⟩
  go_wp2_with fail
  go_simp
  go_loopw [6] (fun i wr => ∃ k : Nat, k ≤ len ∧ i = .int .i64 k ∧ (∀ j, j < k → v.names[j]? ≠ some nm) ∧ Gr w wr)
    (fun i _ => len - (intOf i).toNat)
  case atStart => exact ⟨0, Nat.zero_le _, rfl, fun j hj => absurd hj (by omega), Gr.refl _⟩
  case round =>
    obtain ⟨k, hkl, rfl, hno, hG⟩ := hrel
    have c0r := hG.cell c0
    have c1r := hG.cell c1
    have c2r := hG.cell c2
    have a1r := a1.gr hG
    have a2r := Gr.own hG a2
    have a3r := Gr.own hG a3
    by_cases hlt : k < len
    · obtain ⟨x, hx⟩ : ∃ x, v.names[k]? = some x := ⟨v.names[k]'(by have := HLN.out; omega), List.getElem?_eq_getElem (by have := HLN.out; omega)⟩
      obtain ⟨gN, rfl, hcN0⟩ := own_at1 a2r hlt (u := strV x) (by rw [List.getElem?_map, hx]; rfl)
      obtain ⟨sx, hsx⟩ : ∃ s : ByteArray, s = ⟨x.toArray⟩ := ⟨_, rfl⟩
      have hcN : wr.cell? ⟨gN, k, none⟩ = some (.string sx) := by rw [hsx]; exact hcN0
      clear hcN0
      have hlti : (k : Int) < (len : Int) := by omega
      by_cases hxe : x = nm
      · have hse : (sx.toList == s.toList) = true := str_sameL hsx HSN.out hxe
        have hpl : Hid (X = drawL v.key 0 (k + 1) 32) := by
          show _ = _
          rw [HXE.out, place_at (by rw [hx, hxe]) hno]
        have hnv : v.named nm = v := by
          have hm : nm ∈ v.names := hxe ▸ List.mem_of_getElem? hx
          simp [Vt.named, hm]
        obtain ⟨k1, hk1⟩ : ∃ q, q = k + 1 := ⟨_, rfl⟩
        have HK1 : Hid ((k : Int) + 1 = (k1 : Int)) := by show _ = _; omega
        rw [← hk1] at hpl
        have hk1b : k1 ≤ 100000 := by omega
        have hR2 := hR.gr hG
        clear hsx hxe hk1 hx hno a1 a2 a3 a1r a2r a3r c0 c1 c2 hR
        go_wp2_with fail
        try simp only [HK1.out]
        refine (HD.out k1 wr hk1b).mono ?_
        rintro r w2 ⟨rfl, hG2⟩
        rw [← hpl.out]
        go_wp2_with fail
        refine bodyPost_ret (results_tmp2 rfl _ _ _) rfl ?_
        rw [hnv]
        exact ⟨rfl, hR2.gr hG2, Tn.of_gr (hG.trans hG2)⟩
      · have hse : (sx.toList == s.toList) = false := str_otherL hsx HSN.out hxe
        have hno2 : ∀ j, j < k + 1 → v.names[j]? ≠ some nm := by
          intro j hj
          rcases Nat.lt_or_ge j k with h | h
          · exact hno j h
          · obtain rfl : j = k := by omega
            rw [hx]
            intro h
            injection h with h
            exact hxe h
        clear hsx hxe hx hno
        go_wp2_with fail
        go_roundw
        case rel => exact ⟨k + 1, by omega, by go_num, hno2, hG⟩
        case measure => simp [intOf]; omega
    · have hlt2 : ¬ (k : Int) < (len : Int) := by omega
      have hkl2 : k = len := by omega
      have a1n := a1r.gr (Gr.alloc wr (.cells #[.string s] 9))
      have a2n := Gr.own (Gr.alloc wr (.cells #[.string s] 9)) a2r
      have hBr : B ≤ (wr.alloc (.cells #[.string s] 9)).heap.size := by have := hG.size; simp; omega
      obtain ⟨k1, hk1⟩ : ∃ q, q = len + 1 := ⟨_, rfl⟩
      have h63 : len + 1 ≤ maxLen := by unfold maxLen; omega
      obtain ⟨hl1, hl2⟩ : (∀ u ∈ [Value.string s], u.oneCell' = true) ∧ (len + 1) * 16 ≤ 140737488355328 := ⟨by simp [Value.oneCell'], by omega⟩
      have HK1 := Lib.hid hk1
      have hk1b : k1 ≤ 100000 := by omega
      clear a1 a2 a3 a1r a2r c0 c1 c2 hR hk1
      go_upto_region 11 with (at_builtin; go_must (refine wpList_appT rfl (.tmp 51) (.tmp 53) 42 rfl B 9 i0 (.string ⟨#[]⟩) 1 16 Tryd.underlying42 hi0 hz0 hz1 hz2 rfl (by omega) rfl a2n ⟨wr.heap.size, 0, none⟩ 1 1 [.string s] rfl rfl (cell_one_new _ _ _) hl1 h63 hl2 hBr ?_; intro A2 c2 w3 hO3 hg3 hT3; have hTa := hT3 (fun _ o => match o with | .cells _ t _ => t == 9 | _ => false) (fun _ _ _ => rfl); have hTr := hT3 refT (fun _ _ _ => rfl); have hA3 := a1n.tn hTa (fun C f => rfl); have d2 : w3.cell? ⟨g, 2, none⟩ = some (.slice A len cA) := hA3.cell rfl; have f2 : w3.frozen? ⟨g, 2, none⟩ = false := hA3.frozen 2; clear hT3; rw [← HK1.out] at hO3 ⊢))
      obtain ⟨w4, hw4⟩ : ∃ w4, w4 = w3.setCell ⟨g, 2, none⟩ (.slice A2 k1 c2) := ⟨_, rfl⟩
      rw [← hw4]
      have hA4 : Arr w4 g 48 [.bool v.ideal, strV v.key, .slice A2 k1 c2, .slice D v.L.length cD] := by rw [hw4]; exact hA3.set 2 _
      have hTv : Tn (fun _ o => match o with | .cells _ t _ => t == 48 | _ => false) B w3 w4 := by rw [hw4]; exact Tn.cell hA3 hBg (fun _ _ => rfl) 2 _
      have hTq : Tn refT B w3 w4 := by rw [hw4]; exact Tn.cell hA3 hBg (fun _ _ => rfl) 2 _
      have hO4 := own_tn hO3 hTv (fun _ _ _ => rfl)
      have hS4 := own_tn (own_tn (Gr.own (Gr.alloc wr (.cells #[.string s] 9)) a3r) hTa (fun _ _ _ => rfl)) hTv (fun _ _ _ => rfl)
      have hT4 : Tn refT B w w4 := (Tn.of_gr (hG.trans (Gr.alloc wr (.cells #[.string s] 9)))).trans (hTr.trans hTq)
      have d1 : w4.cell? ⟨g, 1, none⟩ = some (.string kk) := by rw [HKK.out]; exact hA4.cell rfl
      have e2 : w4.cell? ⟨g, 2, none⟩ = some (.slice A2 k1 c2) := hA4.cell rfl
      have hni : nm ∉ v.names := by
        intro hm
        have h3 := List.idxOf_lt_length_of_mem hm
        refine hno (v.names.idxOf nm) (by have := HLN.out; omega) ?_
        rw [List.getElem?_eq_getElem h3, List.getElem_idxOf h3]
      have hpl : X = drawL v.key 0 k1 32 := by
        have h3 := HXE.out
        rw [place_new hni, ← HLN.out, ← HK1.out] at h3
        exact h3
      have hR4 : RIs B w4 g (v.named nm) := by
        have hnv : v.named nm = { v with names := v.names ++ [nm] } := by
          rw [Vt.named, if_pos ⟨HIV.out, hni⟩]
        have hnl : (v.names ++ [nm]).length = k1 := by
          have h3 := HLN.out
          have h4 := HK1.out
          simp
          omega
        have hmp : (v.names ++ [nm]).map strV = v.names.map strV ++ [.string s] := by
          rw [HSN.out]; simp [strV]
        rw [hnv]
        refine ⟨hBg, hKl, A2, c2, D, cD, ?_, ?_, hS4⟩
        · show Arr w4 g _ [.bool v.ideal, strV v.key, .slice A2 (v.names ++ [nm]).length c2, .slice D v.L.length cD]
          rw [hnl]; exact hA4
        · show w4.ownsRow B _ 1 (.slice A2 (v.names ++ [nm]).length c2) (v.names ++ [nm]).length ((v.names ++ [nm]).map strV)
          rw [hnl, hmp]; exact hO4
      have HPL := Lib.hid hpl
      clear hpl hw4 hTv hTq hO4 hS4 hTa hTr hO3 hg3 hA3 d2 f2 hno hni
      refine wp_region_ssaL (by kernel_rfl) [IsV (.pointer (some ⟨g, 0, none⟩)), IsV (.pointer (some ⟨g, 0, none⟩)), IsV (.pointer (some ⟨g, 1, none⟩)), IsV (.string kk), IsV (.pointer (some ⟨g, 0, none⟩)), IsV (.pointer (some ⟨g, 0, none⟩)), IsV (.pointer (some ⟨g, 2, none⟩)), IsV (.slice A2 k1 c2), IsV (.int .i64 ((k1 : Nat) : Int)), IsV (.string ⟨(drawL v.key 0 k1 32).toArray⟩), IsV (.string ⟨(drawL v.key 0 k1 32).toArray⟩), IsV (.int .i64 ((0 : Nat) : Int))] (by kernel_rfl) ?_ ?_ ?_
      · intro φ hφ v w1 w2 h hg
        simp only [List.mem_cons, List.not_mem_nil, or_false] at hφ
        rcases hφ with rfl | rfl | rfl | rfl | rfl | rfl | rfl | rfl | rfl | rfl | rfl | rfl
        all_goals first | exact h | exact RdV.gr h hg
      · refine ⟨?_, ?_, ?_, ?_, ?_, ?_, ?_, ?_, ?_, ?_, ?_, ?_, trivial⟩
        · intro a1 w1 hG hF
          exact s_old rfl (wants0 rfl) (.tmp 0) (.inr rfl) (.pointer (some ⟨g, 0, none⟩)) (hF.ol 0 (by kernel_rfl)) rfl
        · intro a1 w1 hG hF
          obtain ⟨_, e57, rfl⟩ := hF.dp 0 57 (by kernel_rfl)
          exact s_is rfl (wants0 rfl) _ rfl (run_nil e57)
        · intro a1 w1 hG hF
          obtain ⟨_, e58, rfl⟩ := hF.dp 1 58 (by kernel_rfl)
          exact s_is rfl (wants0 rfl) _ rfl (run_field (o := 1) (k := 0) Tryd.underlying48 rfl rfl (by kernel_rfl) e58)
        · intro a1 w1 hG hF
          obtain ⟨_, e59, rfl⟩ := hF.dp 2 59 (by kernel_rfl)
          exact s_is rfl (wants0 rfl) _ rfl (run_load1B (.inr (.inr (.inl Tryd.underlying9))) e59 (Gr.cell ((Gr.drew w4).trans hG) d1))
        · intro a1 w1 hG hF
          exact s_old rfl (wants0 rfl) (.tmp 0) (.inr rfl) (.pointer (some ⟨g, 0, none⟩)) (hF.ol 0 (by kernel_rfl)) rfl
        · intro a1 w1 hG hF
          obtain ⟨_, e61, rfl⟩ := hF.dp 4 61 (by kernel_rfl)
          exact s_is rfl (wants0 rfl) _ rfl (run_nil e61)
        · intro a1 w1 hG hF
          obtain ⟨_, e62, rfl⟩ := hF.dp 5 62 (by kernel_rfl)
          exact s_is rfl (wants0 rfl) _ rfl (run_field (o := 2) (k := 0) Tryd.underlying48 rfl rfl (by kernel_rfl) e62)
        · intro a1 w1 hG hF
          obtain ⟨_, e63, rfl⟩ := hF.dp 6 63 (by kernel_rfl)
          exact s_is rfl (wants0 rfl) _ rfl (run_load1B (.inr (.inr (.inr (.inl ⟨_, Tryd.underlying42⟩)))) e63 (Gr.cell ((Gr.drew w4).trans hG) e2))
        · intro a1 w1 hG hF
          obtain ⟨_, e64, rfl⟩ := hF.dp 7 64 (by kernel_rfl)
          exact s_is rfl (wants0 rfl) _ rfl (run_len_slice Tryd.underlying42 e64)
        · intro a1 w1 hG hF
          obtain ⟨_, e60, rfl⟩ := hF.dp 3 60 (by kernel_rfl)
          obtain ⟨_, e65, rfl⟩ := hF.dp 8 65 (by kernel_rfl)
          exact s_call rfl (wants0 rfl) _ rfl _ _ (by simp only [execOp, resolve, invoke, List.map_toArray, List.map_cons, List.map_nil, e60, e65]; go_simp) ((HD.out k1 w1 hk1b).mono fun e w2 ⟨he, hb⟩ => ⟨_, he, rfl, hb⟩)
        · intro a1 w1 hG hF
          exact s_same rfl (wants0 rfl) (.tmp 66) (.inl rfl) (hF.dp 9 66 (by kernel_rfl))
        · intro a1 w1 hG hF
          exact s_old rfl (wants0 rfl) _ (.inl rfl) _ rfl rfl
      · intro vs w1 hG hf
        have z4 : vs 10 = .string ⟨(drawL v.key 0 k1 32).toArray⟩ := hf.2.2.2.2.2.2.2.2.2.2.1
        have z5 : vs 11 = .int .i64 ((0 : Nat) : Int) := hf.2.2.2.2.2.2.2.2.2.2.2.1
        clear hf
        simp only [putAll, Nat.zero_add, Nat.reduceAdd, z4, z5]
        have hT5 := hT4.gr ((Gr.drew _).trans hG)
        have hR5 := hR4.gr ((Gr.drew _).trans hG)
        go_simp
        go_wp2_with fail
        refine bodyPost_ret (results_tmp2 rfl _ _ _) rfl ?_
        rw [HPL.out]
        exact ⟨rfl, hR5, hT5⟩
end Go.Proofs.YtnmhfomnlnlflaaDoor

