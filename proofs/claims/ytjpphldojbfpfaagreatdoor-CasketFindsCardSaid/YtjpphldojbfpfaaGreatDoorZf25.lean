/- Texts of one proof, laid as one: part 25. No condition. -/
import Derived.BigQuiet
import Derived.Test.YtjpphldojbfpfaaGreatDoorZf02
import Derived.Test.YtjpphldojbfpfaaGreatDoorZf24
namespace Go.Proofs.YtjpphldojbfpfaaGreatDoor
open Go.RowKit
set_option maxRecDepth 100000 in
set_option maxHeartbeats 2000000 in
theorem equalU_yes {A B : Option Addr} {n c d : Nat} {l : List UInt8} {w : World} (h1 : Rd w A n (u8s l)) (h2 : Rd w B n (u8s l)) (hn : n ≤ 1000000) :
    Calls Tryz.prog 77 #[.slice A n c, .slice B n d] w fun e w' => e = .returned (.bool true) ∧ Gr w w' := by
  have H1 := Lib.hid h1; have H2 := Lib.hid h2; clear h1 h2
  go_enter Tryz.func77, Tryz.ntmps77
  go_wp2_with fail
  go_simp
  go_loopw [13] (fun i wr => ∃ k : Nat, k ≤ n ∧ i = .int .i64 (k : Int) ∧ Gr w wr) (fun i _ => n - (intOf i).toNat)
  case atStart => exact ⟨0, Nat.zero_le _, rfl, Gr.refl _⟩
  case round =>
    obtain ⟨k, hk, rfl, hG⟩ := hrel
    by_cases hlt : k < n
    · have hki : (k : Int) < (n : Int) := by omega
      obtain ⟨ad, d1, rfl, hd1, hc1⟩ := rd_byte (hG.rd H1.out) hlt; obtain ⟨ad2, d2, rfl, hd2, hc2⟩ := rd_byte (hG.rd H2.out) hlt; rw [hd1] at hd2; obtain rfl := Option.some.inj hd2; clear hd1 hd2
      go_upto_region 6 with fail
      go_quiet (fail)
      go_wp2_with fail
      exact ⟨⟨k + 1, hlt, by go_num, hG.trans (below_dr ⟨_, rfl⟩)⟩, by simp only [intOf]; omega⟩
    · have hki : ¬ (k : Int) < (n : Int) := by omega
      go_wp2_with fail
      go_ret
      exact ⟨rfl, hG⟩
def OwnP (w : World) (ps : List Part) : Prop := ∀ p ∈ ps, w.ownsRow 0 5 1 (.slice p.A p.n p.c) p.n (u8s p.l)
theorem OwnP.gr {w w' : World} {ps : List Part} (h : OwnP w ps) (hG : Gr w w') : OwnP w' ps := fun p hp => Gr.own hG (h p hp)
structure RecsR (w : World) (B : Nat) (A : Option Addr) (k c : Nat) (rs : List (List UInt8)) : Prop where
  ex : ∃ ps : List Part, w.ownsRow B 43 1 (.slice A k c) k (ps.map Part.val) ∧ OwnP w ps ∧ ps.map (·.l) = rs
theorem RecsR.gr {w w' : World} {B : Nat} {A : Option Addr} {k c : Nat} {rs : List (List UInt8)} (h : RecsR w B A k c rs) (hG : Gr w w') : RecsR w' B A k c rs := by
  obtain ⟨ps, h1, h2, h3⟩ := h.ex; exact ⟨ps, Gr.own hG h1, h2.gr hG, h3⟩
theorem infoSl_parts : ∃ i, Tryz.prog.info? 43 = some i ∧ i.zero = some (.slice none 0 0) ∧ i.size = 1 ∧ i.bytes = 24 := by
  have h : (Tryz.prog.info? 43).map (fun i => (i.size, i.bytes, i.zero)) = some (1, 24, some (.slice none 0 0)) := by kernel_rfl
  cases hi : Tryz.prog.info? 43 with
  | none => rw [hi] at h; simp at h
  | some i => rw [hi] at h; simp at h; exact ⟨i, rfl, h.2.2, h.1, h.2.1⟩
def offR (rs : List (List UInt8)) (k : Nat) : Nat := ((rs.take k).flatMap recB).length
theorem offR_succ {rs : List (List UInt8)} {k : Nat} {r : List UInt8} (h : rs[k]? = some r) : offR rs (k + 1) = offR rs k + (r.length + 8) := by
  unfold offR; rw [take_snoc_ rs k r h, List.flatMap_append, List.length_append, List.flatMap_singleton, recB_len]
theorem flat_drop {rs : List (List UInt8)} {k : Nat} {r : List UInt8} (h : rs[k]? = some r) : (rs.flatMap recB).drop (offR rs k) = recB r ++ (rs.drop (k + 1)).flatMap recB := by
  have e : rs = rs.take k ++ r :: rs.drop (k + 1) := by
    have h1 := (List.getElem?_eq_some_iff.1 h); obtain ⟨hk, hr⟩ := h1; rw [← hr, List.getElem_cons_drop, List.take_append_drop]
  unfold offR
  conv => lhs; rw [e]
  rw [List.flatMap_append, List.flatMap_cons]; have : ((rs.take k).flatMap recB) = (((rs.take k ++ r :: rs.drop (k + 1)).take k).flatMap recB) := by rw [← e]
  rw [this, ← e, List.drop_left']; rfl
theorem offR_le {rs : List (List UInt8)} {k : Nat} : offR rs k ≤ (rs.flatMap recB).length := by
  unfold offR
  conv => rhs; rw [← List.take_append_drop k rs]
  rw [List.flatMap_append, List.length_append]; omega
theorem offR_lt {rs : List (List UInt8)} {k : Nat} (h : k < rs.length) : offR rs k + 8 ≤ (rs.flatMap recB).length := by
  have h1 := offR_succ (List.getElem?_eq_getElem h); have h2 := offR_le (rs := rs) (k := k + 1); omega
theorem recs_len : ∀ rs : List (List UInt8), rs.length ≤ (rs.flatMap recB).length
  | [] => Nat.zero_le _
  | x :: rs => by
    have := recs_len rs; rw [List.length_cons, List.flatMap_cons, List.length_append, recB_len]; omega
def RecsL (rs : List (List UInt8)) (w : World) (v i : Value) (wr : World) : Prop := ∃ (k : Nat) (A : Option Addr) (c : Nat), k ≤ rs.length ∧ v = .slice A k c ∧ i = .int .i64 (offR rs k : Int) ∧ RecsR wr w.heap.size A k c (rs.take k) ∧ Gr w wr
def RecsQ (rs : List (List UInt8)) (n : Nat) (w : World) (e : Ending) (w' : World) : Prop := ∃ A c, e = .returned (.tuple #[.slice A rs.length c, .int .i64 (n : Int)]) ∧ RecsR w' w.heap.size A rs.length c rs ∧ Gr w w'
theorem wpList_appZ1 {P : Program} (w : World) {ops : Array Oper} {rest : List Oper} {o : Oper} {a : Act} {Q : Exit → Act → World → Prop} (hgd : o.guard = none) (s x : Operand) (t : TypeId)
    (ho : o.op = .call { callee := .builtin .append, args := #[s, x], argTypes := #[t, t] })
    (base : Nat) (e : TypeId) (i : TypeInfo) (z : Value) (size bytes : Nat) (ht : P.underlying t = some (.slice e)) (hi : P.info? e = some i) (hz : i.zero = some z)
    (hsize : i.size = size) (hby : i.bytes = bytes) (hzs : z.cells.size = size) (hsz : 0 < size) {A : Option Addr} {n c : Nat} {xs : List Value} (hs : a.eval s = .slice A n c) (hown : w.ownsRow base e size (.slice A n c) n xs)
    (ad : Addr) (m c2 : Nat) (news : List Value) (hx : a.eval x = .slice (some ad) m c2) (hl : news.length = m * size) (hnews : ∀ j u, news[j]? = some u → w.cell? (ad.add j) = some u) (h1 : ∀ u ∈ news, u.oneCell' = true)
    (h63 : n + m ≤ maxLen) (hbytes : (n + m) * bytes ≤ 140737488355328) (hbase : base ≤ w.heap.size)
    (hK : ∀ A' c' w', w'.ownsRow base e size (.slice A' (n + m) c') (n + m) (xs ++ news) → Tn (blkT A e) base w w' → (A' = A ∨ ∀ ad, A' = some ad → w.heap.size ≤ ad.block) → wpList P ops Q rest (a.put o.dst (.slice A' (n + m) c')) w') : wpList P ops Q (o :: rest) a w := by
  obtain ⟨A', c', w', hr, h2, h3, _, _, h5⟩ := run_append_keepL (P := P) (w := w) base t o.type e i z size bytes ht hi hz hsize hby hzs hsz A n c xs hown ad m c2 news hl hnews h1 h63 hbytes hbase; refine wpList_plain hgd fun _ hKK => ?_; unfold Oper.wp execOp; simp only [ho, resolve, invoke, builtin, Sem.run_bind, Sem.run_pure, Result.andThen_ok, List.map_toArray, List.map_cons, List.map_nil, hs, hx, hr]; exact hKK _ _ (hK A' c' w' h2 h3 h5)
set_option maxRecDepth 100000 in
set_option maxHeartbeats 16000000 in
theorem records_any {A : Option Addr} {n c : Nat} {rs : List (List UInt8)} {w : World} (hr : Rd w A n (u8s (rs.flatMap recB))) (hl : (rs.flatMap recB).length = n) (hn : n ≤ 262080) (hc : n ≤ c) (hA : A = none → c = 0) :
    Calls Tryz.prog 35 #[.slice A n c] w fun e w' => RecsQ rs n w e w' := by
  obtain ⟨iS, hiS, hzS, hsS, hbS⟩ := infoSl_parts; have HBr := Lib.hid hr; have HBl := Lib.hid hl; have HAn := Lib.hid hA; have hrl : Hid (rs.length ≤ n) := Lib.hid (by rw [← hl]; exact recs_len rs); clear hr hl hA
  go_enter Tryz.func35, Tryz.ntmps35
  go_wp2_with fail
  go_simp
  go_loopw [4, 5] (fun v i wr => RecsL rs w v i wr) (fun _ i _ => n - (intOf i).toNat)
  case atStart => exact ⟨0, none, 0, Nat.zero_le _, rfl, rfl, ⟨[], World.ownsRow_nil _ _ _ _, fun p hp => (by cases hp), rfl⟩, Gr.refl _⟩
  case round =>
    obtain ⟨k, A4, c4, hk, rfl, rfl, hR, hG⟩ := hrel; have HR := Lib.hid hR; clear hR; obtain ⟨off, hoff⟩ : ∃ q, q = offR rs k := ⟨_, rfl⟩; have hoi : (offR rs k : Int) = (off : Int) := by rw [hoff]
    rw [hoi]; clear hoi
    by_cases hlt : k < rs.length
    · obtain ⟨r, hr⟩ : ∃ r, rs[k]? = some r := ⟨_, List.getElem?_eq_getElem hlt⟩; have ho1 : off + 8 ≤ n := by rw [hoff, ← HBl.out]; exact offR_lt hlt
      have hok : off < n := by omega
      have hoi : (off : Int) < (n : Int) := by omega
      have hs1 := offR_succ hr; have ho2 : off + (r.length + 8) ≤ n := by rw [hoff, ← hs1, ← HBl.out]; exact offR_le
      have HD : Hid ((rs.flatMap recB).drop off = recB r ++ (rs.drop (k + 1)).flatMap recB) := Lib.hid (by rw [hoff]; exact flat_drop hr); have HT : Hid (rs.take (k + 1) = rs.take k ++ [r]) := Lib.hid (take_snoc_ rs k r hr); have HS1 : Hid (offR rs (k + 1) = off + (r.length + 8)) := Lib.hid (by rw [hs1, hoff]); obtain ⟨Z, hZ⟩ : ∃ Z, Z = (rs.drop (k + 1)).flatMap recB := ⟨_, rfl⟩; rw [← hZ] at HD; have hcut := fun w1 => run_cut_l (P := Tryz.prog) Tryz.underlying43 (by kernel_rfl) (A := A) (n := n) (c := c) (lo := off) (l := (off : Int)) rfl (by omega) w1
      have hrd0 : Rd wr (cutA A c off) (n - off) (u8s (recB r ++ Z)) := by
        have := Rd.cutL (hG.rd HBr.out) (lo := off) (by omega) hc
        rwa [u8s_drop, HD.out] at this
      have hZl : (recB r ++ Z).length = n - off := by rw [← HD.out, List.length_drop, HBl.out]
      have HOf := Lib.hid (of_any (c := c - off) hrd0 (by omega) (by omega) hZl (cutA_nil HAn.out)); have hZl2 : Z.length ≤ 262080 := by rw [List.length_append] at hZl; omega
      have HHr := Lib.hid hr; have HOff := Lib.hid hoff; clear hr hs1 hZ hZl hoff
      go_upto_region 5 with first
        | (go_at_call 36; refine HOf.out.mono ?_; rintro e w1 ⟨gi, p, A8, c8, rfl, hgi, _, _, _, hI, hG1⟩; rw [recB, crcL, List.append_assoc] at hI; have HB := Lib.hid (ibytes_big (most := 2147483647) hI (by omega) (by omega) (by omega) (by rw [List.length_append, crcB_len]; omega)); clear hI)
        | (go_at_call 40; refine HB.out.mono ?_; rintro e w2 ⟨A6, c6, _, _, rfl, ho6, hn6, _, hK2⟩)
      have hG2 : Gr wr w2 := hK2.gr_after hG1 hgi; have HO6 := Lib.hid (own_downS ho6 (Nat.zero_le _)); have hr6 := Rd.of_own ho6; clear HOf HB hK2 hgi ho6 hG1 hcut hrd0; have HSz := Lib.hid (lsize_any (c := c6) hr6 rfl (by omega)); obtain ⟨q, hq⟩ : ∃ q, q = r.length + 8 := ⟨_, rfl⟩; have HQ := Lib.hid hq; rw [← hq] at ho2 HS1 HSz; have hq8 : r.length + 8 ≤ q := Nat.le_of_eq hq.symm; clear hq
      go_upto_region 6 with (go_at_call 72; refine HSz.out.mono ?_; rintro e w3 ⟨rfl, hG3⟩)
      have hG23 := hG2.trans hG3; have hGw3 := hG.trans hG23; have hr63 := hG3.rd hr6; have hq2 : ¬ ((n - off : Nat) : Int) < (q : Int) := by omega
      have HBy := Lib.hid (fun w1 (g : Gr w3 w1) => recb_any (c := c6) (g.rd hr63) rfl (by omega))
      have hlh : ∀ w1, (Instr.sliceAt 43 (.slice A n c) (some (.int .i64 (off : Int))) (some (.int .i64 ((off + q : Nat) : Int))) none).run Tryz.prog w1 = .ok (.slice (cutA A c off) q (c - off)) w1 := fun w1 => by
        have := run_cut_lh (P := Tryz.prog) Tryz.underlying43 (by kernel_rfl) (A := A) (n := n) (c := c) (lo := off) (hi := off + q) (l := (off : Int)) (h := ((off + q : Nat) : Int)) rfl rfl (by omega) (by omega) w1
        rwa [Nat.add_sub_cancel_left] at this
      have hrq : Rd w3 (cutA A c off) q (u8s (recB r)) := by
        have h0 := (Rd.cutL (hGw3.rd HBr.out) (lo := off) (by omega) hc).take (k := q) (by omega); rw [u8s_drop, HD.out, u8s_take, List.take_append_of_le_length (by rw [recB_len]; have := HQ.out; omega), List.take_of_length_le (by rw [recB_len]; have := HQ.out; omega)] at h0; exact h0
      have HEq := Lib.hid (fun w1 A1 c1 (g : Gr w3 w1) (h : Rd w1 A1 q (u8s (recB r))) => equalU_yes (c := c1) (d := c - off) h (g.rd hrq) (by omega)); have HO63 := Lib.hid (Gr.own hG3 HO6.out); have hG9r := hG23; clear HSz hG2 hG3 hr6 hG23 hr63; refine wp_region_ssaL (by kernel_rfl) [IsV (.int .i64 ((q : Nat) : Int)), IsV (.slice A n c), IsV (.int .i64 ((n : Nat) : Int)), IsV (.int .i64 ((off : Nat) : Int)), IsV (.int .i64 ((n - off : Nat) : Int)), IsV (.bool false), IsV (.bool false), IsV (.slice A6 r.length c6), RdV q (recB r), IsV (.slice A n c), IsV (.int .i64 ((off : Nat) : Int)), IsV (.int .i64 ((off : Nat) : Int)), IsV (.int .i64 ((q : Nat) : Int)), IsV (.int .i64 ((off + q : Nat) : Int)), IsV (.slice (cutA A c off) q (c - off)), IsV (.bool true), IsV (.bool false), IsV (.bool false)] (by kernel_rfl) ?_ ?_ ?_
      · intro φ hφ v w1 w2 h hg; simp only [List.mem_cons, List.not_mem_nil, or_false] at hφ; rcases hφ with rfl | rfl | rfl | rfl | rfl | rfl | rfl | rfl | rfl | rfl | rfl | rfl | rfl | rfl | rfl | rfl | rfl | rfl
        all_goals first | exact h | exact RdV.gr h hg
      · refine ⟨?_, ?_, ?_, ?_, ?_, ?_, ?_, ?_, ?_, ?_, ?_, ?_, ?_, ?_, ?_, ?_, ?_, ?_, trivial⟩
        · intro a1 w1 hG hF; exact s_old rfl (wants0 rfl) (.tmp 7) (.inr rfl) (.int .i64 ((q : Nat) : Int)) (hF.ol 7 (by kernel_rfl)) rfl
        · intro a1 w1 hG hF; exact s_old rfl (wants0 rfl) (.tmp 0) (.inr rfl) (.slice A n c) (hF.ol 0 (by kernel_rfl)) rfl
        · intro a1 w1 hG hF; obtain ⟨_, e20, rfl⟩ := hF.dp 1 20 (by kernel_rfl); exact s_is rfl (wants0 rfl) _ rfl (run_len_slice Tryz.underlying43 e20)
        · intro a1 w1 hG hF; exact s_old rfl (wants0 rfl) (.tmp 5) (.inr rfl) (.int .i64 ((off : Nat) : Int)) (hF.ol 5 (by kernel_rfl)) rfl
        · intro a1 w1 hG hF; obtain ⟨_, e21, rfl⟩ := hF.dp 2 21 (by kernel_rfl); obtain ⟨_, e22, rfl⟩ := hF.dp 3 22 (by kernel_rfl); exact s_is rfl (wants0 rfl) _ rfl (run_subN (a := n) (b := off) e21 e22 (by omega) (by omega))
        · intro a1 w1 hG hF; obtain ⟨_, e19, rfl⟩ := hF.dp 0 19 (by kernel_rfl); obtain ⟨_, e23, rfl⟩ := hF.dp 4 23 (by kernel_rfl); exact s_is rfl (wants0 rfl) _ rfl (by simp only [execOp, e19, e23]; go_simp)
        · intro a1 w1 hG hF; exact s_same rfl (wants0 rfl) (.tmp 24) (.inr rfl) (hF.dp 5 24 (by kernel_rfl))
        · intro a1 w1 hG hF; exact s_old rfl (wantsG hF 6 25 false rfl (by kernel_rfl) rfl) (.tmp 6) (.inr rfl) (.slice A6 r.length c6) (hF.ol 6 (by kernel_rfl)) rfl
        · intro a1 w1 hG hF; obtain ⟨_, e26, rfl⟩ := hF.dp 7 26 (by kernel_rfl); exact s_call rfl (wantsG hF 6 25 false rfl (by kernel_rfl) rfl) _ rfl _ _ (by simp only [execOp, resolve, invoke, List.map_toArray, List.map_cons, List.map_nil, e26]; go_simp) ((HBy.out w1 ((Gr.drew w3).trans hG)).mono fun e w2 ⟨A8, c8, he, ho, _, hb⟩ => ⟨_, he, by obtain ⟨A9, c9, e9, h1, h2⟩ := RdV.own ho; rw [show (recB r).length = q by rw [recB_len, HQ.out]] at e9 h1 h2 ⊢; exact ⟨A9, c9, e9, h1, h2⟩, hb⟩)
        · intro a1 w1 hG hF; exact s_old rfl (wantsG hF 6 25 false rfl (by kernel_rfl) rfl) (.tmp 0) (.inr rfl) (.slice A n c) (hF.ol 0 (by kernel_rfl)) rfl
        · intro a1 w1 hG hF; exact s_old rfl (wantsG hF 6 25 false rfl (by kernel_rfl) rfl) (.tmp 5) (.inr rfl) (.int .i64 ((off : Nat) : Int)) (hF.ol 5 (by kernel_rfl)) rfl
        · intro a1 w1 hG hF; exact s_old rfl (wantsG hF 6 25 false rfl (by kernel_rfl) rfl) (.tmp 5) (.inr rfl) (.int .i64 ((off : Nat) : Int)) (hF.ol 5 (by kernel_rfl)) rfl
        · intro a1 w1 hG hF; exact s_old rfl (wantsG hF 6 25 false rfl (by kernel_rfl) rfl) (.tmp 7) (.inr rfl) (.int .i64 ((q : Nat) : Int)) (hF.ol 7 (by kernel_rfl)) rfl
        · intro a1 w1 hG hF; obtain ⟨_, e30, rfl⟩ := hF.dp 11 30 (by kernel_rfl); obtain ⟨_, e31, rfl⟩ := hF.dp 12 31 (by kernel_rfl); exact s_is rfl (wantsG hF 6 25 false rfl (by kernel_rfl) rfl) _ rfl (run_addN (a := off) (b := q) e30 e31 (by omega))
        · intro a1 w1 hG hF; obtain ⟨_, e28, rfl⟩ := hF.dp 9 28 (by kernel_rfl); obtain ⟨_, e29, rfl⟩ := hF.dp 10 29 (by kernel_rfl); obtain ⟨_, e32, rfl⟩ := hF.dp 13 32 (by kernel_rfl); exact s_is rfl (wantsG hF 6 25 false rfl (by kernel_rfl) rfl) _ rfl (by simp only [execOp, e28, e29, e32, Option.map, Sem.run_bind, hlh, Result.andThen_ok, Sem.run_pure])
        · intro a1 w1 hG hF; obtain ⟨x27, e27, f27⟩ := hF.dp 8 27 (by kernel_rfl); obtain ⟨_, e33, rfl⟩ := hF.dp 14 33 (by kernel_rfl); obtain ⟨A1, c1, rfl, _, hr1⟩ := f27; exact s_call rfl (wantsG hF 6 25 false rfl (by kernel_rfl) rfl) _ rfl _ _ (by simp only [execOp, resolve, invoke, List.map_toArray, List.map_cons, List.map_nil, e27, e33]; go_simp) ((HEq.out w1 A1 c1 ((Gr.drew w3).trans hG) hr1).mono fun e w2 ⟨he, hb⟩ => ⟨_, he, rfl, hb⟩)
        · intro a1 w1 hG hF; obtain ⟨_, e34, rfl⟩ := hF.dp 15 34 (by kernel_rfl); exact s_is rfl (wantsG hF 6 25 false rfl (by kernel_rfl) rfl) _ rfl (by simp only [execOp, e34]; go_simp)
        · intro a1 w1 hG hF; obtain ⟨_, e25, rfl⟩ := hF.dp 6 25 (by kernel_rfl); obtain ⟨_, e35, rfl⟩ := hF.dp 16 35 (by kernel_rfl); exact s_pickF rfl (wants0 rfl) (.tmp 25) _ (.tmp 35) rfl e25 _ e35 rfl
      · intro vs w9 hG' hf; have z36 : vs 17 = .bool false := hf.2.2.2.2.2.2.2.2.2.2.2.2.2.2.2.2.2.1; clear hf; simp only [putAll, Nat.zero_add, Nat.reduceAdd, z36]; have hGw9 : Gr w w9 := hGw3.trans ((Gr.drew w3).trans hG'); have hG39 : Gr w3 w9 := (Gr.drew w3).trans hG'; clear hG'; obtain ⟨ps, hps, hop, hpl⟩ := (HR.out.gr (Gr.trans hG9r hG39)).ex; have HO69 := Lib.hid (Gr.own hG39 HO63.out); have HOp := Lib.hid hop; have HPl := Lib.hid hpl; have hk8 : k ≤ 262080 := by have := hrl.out; omega
        have hGa : Gr w9 (w9.alloc (.cells #[.slice A6 r.length c6] 43)) := Gr.alloc _ _; have hpa := Gr.own hGa hps
        have hnew : ∀ j u, [Value.slice A6 r.length c6][j]? = some u → (w9.alloc (.cells #[.slice A6 r.length c6] 43)).cell? ((⟨w9.heap.size, 0, none⟩ : Addr).add j) = some u := fun j u hu => by
          rw [add_row, Nat.zero_add]; exact (Arr.newAt (l := [Value.slice A6 r.length c6]) rfl rfl : Arr (w9.alloc (.cells #[.slice A6 r.length c6] 43)) w9.heap.size 43 _).cell hu
        have hsa : w.heap.size ≤ (w9.alloc (.cells #[.slice A6 r.length c6] 43)).heap.size := Nat.le_trans hGw9.size hGa.size; have hGwa := hGw9.trans hGa; clear hps hop hpl hG39 hGw3 hrq hlh hq2 hG; go_simp
        go_upto_region 8 with (at_builtin; go_must (refine wpList_appZ1 _ rfl (.tmp 37) (.tmp 39) 75 rfl w.heap.size 43 iS (.slice none 0 0) 1 24 Tryz.underlying75 hiS hzS hsS hbS rfl (by omega) rfl hpa ⟨w9.heap.size, 0, none⟩ 1 1 [.slice A6 r.length c6] rfl rfl hnew (by simp [Value.oneCell']) (by unfold maxLen; omega) (by omega) hsa ?_; intro A7 c7 w10 ho10 hT10 hl10))
        have HREL : Hid (RecsL rs w (.slice A7 (k + 1) c7) (.int .i64 ((off + q : Nat) : Int)) w10) := Lib.hid (by
          have hI : InS (fun i => ∃ ad, A4 = some ad ∧ ad.block = i) _ w10 := InS.of_tn hT10
          have hG10 : Gr w w10 := InS.gr_after hGwa hI (fun i hi ⟨ad, q1, q2⟩ => by
            have := (hpa.lt ad.block (by rw [q1]; rfl)).1; omega)
          refine ⟨k + 1, A7, c7, hlt, rfl, by rw [HS1.out], ⟨ps ++ [⟨A6, r.length, c6, r⟩], by rw [List.map_append]; exact ho10, ?_, by rw [List.map_append, HPl.out, HT.out]; rfl⟩, hG10⟩; intro p hp
          have hne : ∀ {p : Part}, w9.ownsRow 0 5 1 (.slice p.A p.n p.c) p.n (u8s p.l) → w10.ownsRow 0 5 1 (.slice p.A p.n p.c) p.n (u8s p.l) := fun {p} ho => by
            refine hI.own (Gr.own hGa ho) (fun ad e ⟨ad2, q1, q2⟩ => ?_); have h1 := Gr.own hGa ho; rcases hpa.2 with ⟨e2, _⟩ | ⟨g, cap, cur, e2, _, hg, _⟩
            · injection e2 with e2
              rw [e2] at q1; cases q1
            · injection e2 with e2
              rw [e2] at q1; injection q1 with q1
              have hgg : ad.block = g := by rw [← q2, ← q1]
              rcases h1.2 with ⟨e3, _⟩ | ⟨g2, cap2, cur2, e3, _, hg2, _⟩
              · injection e3 with e3
                rw [e3] at e; cases e
              · injection e3 with e3
                rw [e3] at e; injection e with e
                rw [← e] at hgg; have : g2 = g := hgg; rw [this, hg] at hg2; injection hg2 with hg2
                injection hg2 with _ hg2
                exact absurd hg2 (by decide)
          rcases List.mem_append.1 hp with hp | hp
          · exact hne (HOp.out p hp)
          · rw [List.mem_singleton] at hp; subst hp; exact hne HO69.out)
        clear ho10 hT10 hl10 hpa hnew hsa hGwa hGa hGw9; go_wp2_with fail
        exact ⟨by rw [show (off : Int) + (q : Int) = ((off + q : Nat) : Int) by omega]; exact HREL.out, by simp [intOf]; omega⟩
    · have hke : k = rs.length := by omega
      have hon : off = n := by rw [hoff, hke, ← HBl.out]; unfold offR; rw [List.take_length]
      have HR2 : Hid (RecsR wr w.heap.size A4 rs.length c4 rs) := Lib.hid (by
        have := HR.out; rw [hke, List.take_length] at this; exact this)
      have HK := Lib.hid hke; clear hoff hke; subst hon; go_wp2_with fail
      refine bodyPost_ret (results_tmp2 rfl _ _ _) rfl ?_; exact ⟨A4, c4, by rw [← HK.out]; rfl, HR2.out, hG⟩
end Go.Proofs.YtjpphldojbfpfaaGreatDoor
namespace Go.Proofs.YtjpphldojbfpfaaGreatDoor
open Go.RowKit
theorem HeadsOk.best {L : List Sec} {N t a c : Nat} (h : HeadsOk L N t a c) (hN : N ≤ 8192) (ht : t ≤ 1000000) : ∃ (p : Nat → PlaceN) (x : Nat → Sec), (∀ i, i < 2 → L[i]? = some (x i)) ∧ (∀ i, i < 2 → (p i).1 < 4611686018427387904) ∧ bestN p 2 = (t, a, c) ∧
    ∀ i, i < 2 → ∀ w1, Calls Tryz.prog 54 #[.agg (encS (x i)).toArray, .int .i64 (i : Int), .int .i64 ((areaN N * 64 : Nat) : Int)] w1 fun e w' => e = .returned (.agg (plC (p i)).toArray) ∧ Gr w1 w' := by
  obtain ⟨h1, h2, h3, h4, h5⟩ := h; have ha := areaN_le hN
  obtain ⟨y, o, hy, hot, hor⟩ : ∃ (y : Sec) (o : PlaceN), L[(t + 1) % 2]? = some y ∧ o.1 < t ∧ ∀ w1, Calls Tryz.prog 54 #[.agg (encS y).toArray, .int .i64 (((t + 1) % 2 : Nat) : Int), .int .i64 ((areaN N * 64 : Nat) : Int)] w1 fun e w' => e = .returned (.agg (plC o).toArray) ∧ Gr w1 w' := by
    rcases h5 with h5 | ⟨a', c', q1, q2, q3, h5⟩
    · exact ⟨zeroSec, (0, 0, 0), h5, h1, fun w1 => lread_no _ _ w1⟩
    · exact ⟨headS (t - 1) a' c', (t - 1, a', c'), h5, by show t - 1 < t; omega, fun w1 => lread_yes (t - 1) a' c' _ _ (by omega) ⟨by omega, by omega⟩ q2 q3 (by omega) w1⟩
  refine ⟨fun i => if i = t % 2 then (t, a, c) else o, fun i => if i = t % 2 then headS t a c else y, fun i hi => ?_, fun i hi => ?_, ?_, fun i hi w1 => ?_⟩
  · by_cases e : i = t % 2
    · simp only [e, if_true]; exact h4
    · simp only [e, if_false]; rw [show i = (t + 1) % 2 by omega]; exact hy
  · by_cases e : i = t % 2
    · simp only [e, if_true]; omega
    · simp only [e, if_false]; omega
  · have e0 : t % 2 = 0 ∨ t % 2 = 1 := by omega
    rcases e0 with e0 | e0
    · simp only [bestN, e0, if_true, show (1 : Nat) ≠ 0 by omega, if_false]; have hb1 : (if 0 < t then (t, a, c) else ((0, 0, 0) : PlaceN)) = (t, a, c) := if_pos (by omega); simp only [hb1]; rw [if_neg (by show ¬ t < o.1; omega)]
    · simp only [bestN, e0, if_true, show (0 : Nat) ≠ 1 by omega, if_false]
      by_cases ho : 0 < o.1
      · rw [if_pos ho, if_pos hot]
      · rw [if_neg ho, if_pos (by show 0 < t; omega)]
  · by_cases e : i = t % 2
    · simp only [e, if_true]; exact lread_yes t a c _ _ rfl ⟨h1, by omega⟩ h2 h3 (by omega) w1
    · simp only [e, if_false]; rw [show i = (t + 1) % 2 by omega]; exact hor w1
def LOpenQ (D : Dk) (t a : Nat) (rs : List (List UInt8)) (L : List Sec) (w : World) (e : Ending) (w' : World) : Prop := ∃ lg A c A2 c2, e = .returned (.tuple #[.pointer (some ⟨lg, 0, none⟩), .slice A2 rs.length c2, .int .i64 0]) ∧ w.heap.size ≤ lg ∧ LogIs w' D lg t a (rs.flatMap recB) L A c ∧ (∀ ad, A = some ad → w.heap.size ≤ ad.block) ∧ RecsR w' w.heap.size A2 rs.length c2 rs ∧ Gr w w'
section
variable {w : World} {D : Dk} {B : Nat} {L : List Sec}
set_option maxRecDepth 100000 in
set_option maxHeartbeats 16000000 in
theorem lopen_any {t a : Nat} {rs : List (List UInt8)} (h : DiskIs w D B L L none 0 0) (hN : 4 ≤ D.N) (hH : HeadsOk L D.N t a (rs.flatMap recB).length) (hA : AreaOk L D.N a (rs.flatMap recB)) (hfit : (rs.flatMap recB).length ≤ areaN D.N * 64) (ht : t ≤ 1000000) :
    Calls Tryz.prog 16 #[.pointer (some ⟨D.d, 0, none⟩)] w fun e w' => LOpenQ D t a rs L w e w' := by
  have hN2 := h.few.2; have H := Lib.hid h; have HM := Lib.hid (lmay_any h hN); obtain ⟨p, x, hx, hp, hb, hr⟩ := hH.best hN2 ht; have HLa := latest_any h hN p x hx hp hr; rw [hb] at HLa
  replace HLa := Lib.hid HLa
  have ha1 : a ≤ 1 := hH.2.1; have ht1 : 1 ≤ t := hH.1; have HH := Lib.hid hH; have HA := Lib.hid hA; have HF := Lib.hid hfit; have ha8 := areaN_le hN2; obtain ⟨n, hn⟩ : ∃ n, n = (rs.flatMap recB).length := ⟨_, rfl⟩; have hn8 : n ≤ 262080 := by omega
  rw [← hn] at HLa; have HN := Lib.hid hn; clear h hx hp hb hr hH hA hfit hn
  go_enter Tryz.func16, Tryz.ntmps16
  go_upto_region 5 with first
    | (go_at_call 28; refine HM.out.mono ?_; rintro e w1 ⟨rfl, rfl⟩)
    | (go_at_call 29; refine HLa.out.mono ?_; rintro e w1 ⟨rfl, hG1⟩)
    | (refine wpList_new (w := w1) (t := 97) rfl _ _ _ rfl w1.heap.size (placeC t a n) rfl rfl rfl rfl (infoPlace t a n) (placeC_one t a n) ?_; intro w2 hA6 hG2)
  have c60 := hA6.cell (i := 0) (v := .int .i64 (t : Int)) rfl; have c61 := hA6.cell (i := 1) (v := .int .i64 (a : Int)) rfl; have c62 := hA6.cell (i := 2) (v := .int .i64 (n : Int)) rfl; have hGw2 := hG1.trans hG2; have ht0 : ¬ (t : Int) = 0 := by omega
  have ht0' : ((t : Int) == 0) = false := by simp; omega
  clear hA6 hG1 hG2 HM HLa
  go_upto_region 10 with (refine wpList_valW rfl (.agg (logC D.d t a none 0 0).toArray) _ (run_buildLg3 (x := .tmp 30) (y := .tmp 32) (z := .tmp 34) (g := D.d) (tu := t) (ar := a) rfl rfl rfl) ?_)
  have hA8 : Arr (w2.alloc (.cells (logC D.d t a none 0 0).toArray 101)) w2.heap.size 101 (logC D.d t a none 0 0) := Arr.newAt rfl rfl; have hG8 : Gr w2 (w2.alloc (.cells (logC D.d t a none 0 0).toArray 101)) := Gr.alloc _ _; have c62' := Gr.cell hG8 c62; generalize w2.alloc (.cells (logC D.d t a none 0 0).toArray 101) = w3 at hA8 hG8 c62' ⊢; obtain ⟨lg, hlg⟩ : ∃ g, g = w2.heap.size := ⟨_, rfl⟩; rw [← hlg] at hA8; simp only [← hlg]; have hlgw : w.heap.size ≤ lg := by have := hGw2.size; omega
  clear hlg; have hGw3 := hGw2.trans hG8; have HL := Lib.hid (lload_any (n := n) (H.out.gr hGw3) hN hA8 ha1 HA.out HN.out.symm (by rw [HN.out]; exact HF.out)); clear c60 c61 c62 hGw2 hG8 hA8
  go_upto_region 13 with (go_at_call 34; refine HL.out.mono ?_; rintro e w4 ⟨A, c, rfl, hl4, ho4, hI4⟩)
  rw [← HN.out] at hl4 ho4; have hG4 : Gr w w4 := InS.gr_after hGw3 hI4 (fun i hi e => by omega); have HA4 : Hid (∀ ad, A = some ad → w.heap.size ≤ ad.block) := Lib.hid (fun ad e => Nat.le_trans hGw3.size (ho4.lt ad.block (by rw [e]; rfl)).1); obtain ⟨_, _, e1, hc4, hn4, hr4⟩ := own_form3 ho4; injection e1 with e1 _ e2
  subst e1 e2; have cb4 := hl4.cell (i := 3) (v := .slice A n c) rfl; have HRe := Lib.hid (records_any (c := c) (rs := rs) hr4 HN.out.symm hn8 hc4 (fun e => (hn4 e).2)); have HO4 := Lib.hid ho4; clear HL hI4 hGw3 c62' hr4 hn4 ho4
  go_upto_region 14 with (go_at_call 35; refine HRe.out.mono ?_; rintro e w5 ⟨A2, c2, rfl, hR5, hG5⟩)
  have hl5 := hl4.gr hG5; have hcut : ∀ w1, (Instr.sliceAt 43 (.slice A n c) none (some (.int .i64 (n : Int))) none).run Tryz.prog w1 = .ok (.slice A n c) w1 := fun w1 => run_cut_h (P := Tryz.prog) Tryz.underlying43 (by kernel_rfl) (A := A) (n := n) (c := c) (hi := n) (h := (n : Int)) rfl hc4 w1; have cb5 := Gr.cell hG5 cb4; clear cb4 HRe
  go_wp2_with (refine wpList_setV hl5 rfl 43 (.tmp 60) (.tmp 58) rfl (by kernel_rfl) 3 (.slice A n c) rfl rfl (by simp [logC]) (.inl ⟨_, _, _, rfl⟩) ?_; intro w10 hA10 hK10)
  refine bodyPost_ret (results_tmp3 rfl _ _ _) rfl ?_; have hGw5 := hG4.trans hG5; have hGr : Gr w w10 := hK10.gr_after hGw5 hlgw; have hO5 := Gr.own hG5 HO4.out; refine ⟨lg, A, c, A2, c2, rfl, hlgw, ⟨(H.out.gr hGr).rebase 0, hN, by rw [← HN.out]; exact hA10, ?_, HH.out, HA.out, HF.out, ht⟩, HA4.out, ?_, hGr⟩
  · rw [← HN.out]; exact own_downS ((InS.of_ink (S := fun i => i = lg) hK10 rfl).own hO5 (own_arr_ne hO5 hl5 (by decide))) (Nat.zero_le _)
  · obtain ⟨ps, h1, h2, h3⟩ := hR5.ex; refine ⟨ps, (InS.of_ink (S := fun i => i = lg) hK10 rfl).own (own_downS h1 hG4.size) (own_arr_ne h1 hl5 (by decide)), fun p hp => (InS.of_ink (S := fun i => i = lg) hK10 rfl).own (h2 p hp) (own_arr_ne (h2 p hp) hl5 (by decide)), h3⟩
end
end Go.Proofs.YtjpphldojbfpfaaGreatDoor
