/- Texts of one proof, laid as one: part 4. No condition. -/
import Derived.Test.YtjpphldojbfpfaaGreatDoorZf01
import Derived.Test.YtjpphldojbfpfaaGreatDoorZf02
namespace Go.Proofs.YtjpphldojbfpfaaGreatDoor
open Go.RowKit
def rr (x : UInt32) (k : Nat) : UInt32 := leftU x (-(k : Int))
def trn (x : UInt32) (a b c : Nat) : UInt32 := rr x a ^^^ rr x b ^^^ rr x c
def mvd (x : UInt32) (a b c : Nat) : UInt32 := rr x a ^^^ rr x b ^^^ (x >>> UInt32.ofNat c)
def keysL : List UInt32 := [0x428a2f98, 0x71374491, 0xb5c0fbcf, 0xe9b5dba5, 0x3956c25b, 0x59f111f1, 0x923f82a4, 0xab1c5ed5,
  0xd807aa98, 0x12835b01, 0x243185be, 0x550c7dc3, 0x72be5d74, 0x80deb1fe, 0x9bdc06a7, 0xc19bf174,
  0xe49b69c1, 0xefbe4786, 0x0fc19dc6, 0x240ca1cc, 0x2de92c6f, 0x4a7484aa, 0x5cb0a9dc, 0x76f988da,
  0x983e5152, 0xa831c66d, 0xb00327c8, 0xbf597fc7, 0xc6e00bf3, 0xd5a79147, 0x06ca6351, 0x14292967,
  0x27b70a85, 0x2e1b2138, 0x4d2c6dfc, 0x53380d13, 0x650a7354, 0x766a0abb, 0x81c2c92e, 0x92722c85,
  0xa2bfe8a1, 0xa81a664b, 0xc24b8b70, 0xc76c51a3, 0xd192e819, 0xd6990624, 0xf40e3585, 0x106aa070,
  0x19a4c116, 0x1e376c08, 0x2748774c, 0x34b0bcb5, 0x391c0cb3, 0x4ed8aa4a, 0x5b9cca4f, 0x682e6ff3,
  0x748f82ee, 0x78a5636f, 0x84c87814, 0x8cc70208, 0x90befffa, 0xa4506ceb, 0xbef9a3f7, 0xc67178f2]
def startL : List UInt32 := [0x6a09e667, 0xbb67ae85, 0x3c6ef372, 0xa54ff53a, 0x510e527f, 0x9b05688c, 0x1f83d9ab, 0x5be0cd19]
def wordB (b : List UInt8) (k : Nat) : UInt32 := UInt32.ofNat (beNat ((b.drop (4 * k)).take 4))
def wA (b : List UInt8) : Nat → List UInt32
  | 0 => List.replicate 64 0
  | k + 1 => (wA b k).set k (wordB b k)
def wS (l : List UInt32) (k : Nat) : UInt32 := mvd (l.getD (14 + k) 0) 17 19 10 + l.getD (9 + k) 0 + mvd (l.getD (1 + k) 0) 7 18 3 + l.getD k 0
def wB (l : List UInt32) : Nat → List UInt32
  | 0 => l
  | k + 1 => (wB l k).set (16 + k) (wS (wB l k) k)
def schedU (b : List UInt8) : List UInt32 := wB (wA b 16) 48
def rX (v : List UInt32) (k w : UInt32) : UInt32 := v.getD 7 0 + trn (v.getD 4 0) 6 11 25 + (v.getD 4 0 &&& v.getD 5 0 ^^^ ~~~(v.getD 4 0) &&& v.getD 6 0) + k + w
def rY (v : List UInt32) : UInt32 := trn (v.getD 0 0) 2 13 22 + (v.getD 0 0 &&& v.getD 1 0 ^^^ v.getD 0 0 &&& v.getD 2 0 ^^^ v.getD 1 0 &&& v.getD 2 0)
def roundU (v : List UInt32) (k w : UInt32) : List UInt32 :=
  [rX v k w + rY v, v.getD 0 0, v.getD 1 0, v.getD 2 0, v.getD 3 0 + rX v k w, v.getD 4 0, v.getD 5 0, v.getD 6 0]
def rndU (v W : List UInt32) : Nat → List UInt32
  | 0 => v
  | k + 1 => roundU (rndU v W k) (keysL.getD k 0) (W.getD k 0)
def addU (h v : List UInt32) : List UInt32 := List.zipWith (· + ·) h v
def mixU (h : List UInt32) (b : List UInt8) : List UInt32 := addU h (rndU h (schedU b) 64)
def padS (l : List UInt8) : List UInt8 := l ++ [0x80] ++ List.replicate ((119 - l.length % 64) % 64) 0 ++ (leBytes 8 (l.length * 8)).reverse
def blkS (p : List UInt8) (k : Nat) : List UInt8 := (p.drop (64 * k)).take 64
def hashN (p : List UInt8) : Nat → List UInt32
  | 0 => startL
  | k + 1 => mixU (hashN p k) (blkS p k)
def outS (h : List UInt32) : List UInt8 := h.flatMap fun x => (leBytes 4 x.toNat).reverse
def shaL (l : List UInt8) : List UInt8 := outS (hashN (padS l) ((padS l).length / 64))
@[simp] theorem wA_length (b : List UInt8) (k : Nat) : (wA b k).length = 64 := by
  induction k with
  | zero => simp [wA]
  | succ k ih => rw [wA, List.length_set, ih]
@[simp] theorem wB_length (l : List UInt32) (k : Nat) : (wB l k).length = l.length := by
  induction k with
  | zero => rfl
  | succ k ih => rw [wB, List.length_set, ih]
@[simp] theorem schedU_length (b : List UInt8) : (schedU b).length = 64 := by rw [schedU, wB_length, wA_length]
@[simp] theorem roundU_length (v : List UInt32) (k w : UInt32) : (roundU v k w).length = 8 := rfl
theorem rndU_length {v : List UInt32} (W : List UInt32) (hv : v.length = 8) (k : Nat) : (rndU v W k).length = 8 := by
  cases k with
  | zero => exact hv
  | succ k => rfl
theorem mixU_length {h : List UInt32} (b : List UInt8) (hh : h.length = 8) : (mixU h b).length = 8 := by rw [mixU, addU, List.length_zipWith, rndU_length _ hh, hh]; rfl
theorem hashN_length (p : List UInt8) (k : Nat) : (hashN p k).length = 8 := by
  induction k with
  | zero => rfl
  | succ k ih => exact mixU_length _ ih
theorem outS_length (h : List UInt32) : (outS h).length = 4 * h.length := by
  unfold outS
  induction h with
  | nil => rfl
  | cons x r ih => rw [List.flatMap_cons, List.length_append, ih]; simp; omega
@[simp] theorem shaL_length (l : List UInt8) : (shaL l).length = 32 := by rw [shaL, outS_length, hashN_length]
theorem padS_length (l : List UInt8) : ∃ k, (padS l).length = 64 * k ∧ 64 * k ≤ l.length + 72 := by
  refine ⟨(l.length + 1 + (119 - l.length % 64) % 64 + 8) / 64, ?_, by omega⟩; simp only [padS, List.length_append, List.length_cons, List.length_nil, List.length_replicate, List.length_reverse, leBytes_length]; omega
theorem eightU {l : List UInt32} (h : l.length = 8) : ∃ a b c d e f g i, l = [a, b, c, d, e, f, g, i] := by
  match l, h with
  | [a, b, c, d, e, f, g, i], _ => exact ⟨a, b, c, d, e, f, g, i, rfl⟩
end Go.Proofs.YtjpphldojbfpfaaGreatDoor
namespace Go.Proofs.YtjpphldojbfpfaaGreatDoor
open Go.RowKit
structure Glob (w : World) : Prop where
  start : w.rangeAt 0 0 (u32s startL)
  keys : w.rangeAt 1 0 (u32s keysL)
theorem Gr.range {w w' : World} (h : Gr w w') {b o : Nat} {cs : List Value} (hr : w.rangeAt b o cs) : w'.rangeAt b o cs := fun j v hv => h.cell (hr j v hv)
theorem Glob.gr {w w' : World} (h : Gr w w') (g : Glob w) : Glob w' := ⟨h.range g.start, h.range g.keys⟩
theorem Glob.below {w w' : World} (h : Below w.heap.size w w') (g : Glob w) : Glob w' := Glob.gr h g
theorem Glob.key {w : World} (g : Glob w) {k : Nat} (hk : k < 64) : w.cell? ⟨1, k, none⟩ = some (.int .u32 ((keysL.getD k 0).toNat : Int)) := by
  have := g.keys k (.int .u32 ((keysL.getD k 0).toNat : Int)) (by
    have hl : keysL.length = 64 := rfl; rw [u32s, List.getElem?_map, List.getD_eq_getElem?_getD, List.getElem?_eq_getElem (by omega)]; rfl)
  simpa using this
set_option maxRecDepth 100000 in
set_option maxHeartbeats 1000000 in
theorem turned_any (x : UInt32) (a b c : Nat) (ha : a ≤ 32) (hb : b ≤ 32) (hc : c ≤ 32) (w : World) :
    Calls Tryz.prog 90 #[.int .u32 x.toNat, .int .i64 a, .int .i64 b, .int .i64 c] w fun e w' => e = .returned (.int .u32 (trn x a b c).toNat) ∧ w = w' := by
  go_enter Tryz.func90, Tryz.ntmps90
  go_wp2_with (go_at_call 125; refine (left_any _ _ _).mono ?_; rintro e w1 ⟨rfl, rfl⟩)
  go_ret
  refine ⟨?_, rfl⟩; rw [xor32, xor32]; rfl
set_option maxRecDepth 100000 in
set_option maxHeartbeats 1000000 in
theorem moved_any (x : UInt32) (a b c : Nat) (ha : a ≤ 32) (hb : b ≤ 32) (hc : c < 32) (w : World) :
    Calls Tryz.prog 124 #[.int .u32 x.toNat, .int .i64 a, .int .i64 b, .int .i64 c] w fun e w' => e = .returned (.int .u32 (mvd x a b c).toNat) ∧ Below w.heap.size w w' := by
  go_enter Tryz.func124, Tryz.ntmps124
  go_wp2_with fail
  refine wp_region_ssaL (by kernel_rfl) [IsV (.int .u32 ((x).toNat : Int)), IsV (.int .i64 ((a : Nat) : Int)), IsV (.int .i64 (-(a : Int))), IsV (.int .u32 ((rr x a).toNat : Int)), IsV (.int .u32 ((x).toNat : Int)), IsV (.int .i64 ((b : Nat) : Int)), IsV (.int .i64 (-(b : Int))), IsV (.int .u32 ((rr x b).toNat : Int)), IsV (.int .u32 (((rr x a) ^^^ (rr x b)).toNat : Int)), IsV (.int .u32 ((x).toNat : Int)), IsV (.int .i64 ((c : Nat) : Int)), IsV (.int .u32 ((x >>> UInt32.ofNat c).toNat : Int)), IsV (.int .u32 ((((rr x a) ^^^ (rr x b)) ^^^ (x >>> UInt32.ofNat c)).toNat : Int)), IsV (.int .u32 ((((rr x a) ^^^ (rr x b)) ^^^ (x >>> UInt32.ofNat c)).toNat : Int))] (by kernel_rfl) ?_ ?_ ?_
  · intro φ hφ v w1 w2 h hg; simp only [List.mem_cons, List.not_mem_nil, or_false] at hφ; rcases hφ with rfl | rfl | rfl | rfl | rfl | rfl | rfl | rfl | rfl | rfl | rfl | rfl | rfl | rfl
    all_goals first | exact h | exact RdV.gr h hg
  · refine ⟨?_, ?_, ?_, ?_, ?_, ?_, ?_, ?_, ?_, ?_, ?_, ?_, ?_, ?_, trivial⟩
    · intro a1 w1 hG hF; exact s_old rfl (wants0 rfl) (.tmp 0) (.inr rfl) (.int .u32 ((x).toNat : Int)) (hF.ol 0 (by kernel_rfl)) rfl
    · intro a1 w1 hG hF; exact s_old rfl (wants0 rfl) (.tmp 1) (.inr rfl) (.int .i64 ((a : Nat) : Int)) (hF.ol 1 (by kernel_rfl)) rfl
    · intro a1 w1 hG hF; obtain ⟨_, e10, rfl⟩ := hF.dp 1 10 (by kernel_rfl); exact s_is rfl (wants0 rfl) _ rfl (run_negN e10 (by omega))
    · intro a1 w1 hG hF; obtain ⟨_, e9, rfl⟩ := hF.dp 0 9 (by kernel_rfl); obtain ⟨_, e11, rfl⟩ := hF.dp 2 11 (by kernel_rfl); exact s_call rfl (wants0 rfl) _ rfl _ _ (by simp only [execOp, resolve, invoke, List.map_toArray, List.map_cons, List.map_nil, e9, e11]; go_simp) ((left_any x (-(a : Int)) w1).mono fun e w2 ⟨he, hw⟩ => ⟨_, he, rfl, hw ▸ Gr.refl _⟩)
    · intro a1 w1 hG hF; exact s_old rfl (wants0 rfl) (.tmp 0) (.inr rfl) (.int .u32 ((x).toNat : Int)) (hF.ol 0 (by kernel_rfl)) rfl
    · intro a1 w1 hG hF; exact s_old rfl (wants0 rfl) (.tmp 2) (.inr rfl) (.int .i64 ((b : Nat) : Int)) (hF.ol 2 (by kernel_rfl)) rfl
    · intro a1 w1 hG hF; obtain ⟨_, e14, rfl⟩ := hF.dp 5 14 (by kernel_rfl); exact s_is rfl (wants0 rfl) _ rfl (run_negN e14 (by omega))
    · intro a1 w1 hG hF; obtain ⟨_, e13, rfl⟩ := hF.dp 4 13 (by kernel_rfl); obtain ⟨_, e15, rfl⟩ := hF.dp 6 15 (by kernel_rfl); exact s_call rfl (wants0 rfl) _ rfl _ _ (by simp only [execOp, resolve, invoke, List.map_toArray, List.map_cons, List.map_nil, e13, e15]; go_simp) ((left_any x (-(b : Int)) w1).mono fun e w2 ⟨he, hw⟩ => ⟨_, he, rfl, hw ▸ Gr.refl _⟩)
    · intro a1 w1 hG hF; obtain ⟨_, e12, rfl⟩ := hF.dp 3 12 (by kernel_rfl); obtain ⟨_, e16, rfl⟩ := hF.dp 7 16 (by kernel_rfl); exact s_is rfl (wants0 rfl) _ rfl (run_xor32 (a := rr x a) (b := rr x b) e12 e16)
    · intro a1 w1 hG hF; exact s_old rfl (wants0 rfl) (.tmp 0) (.inr rfl) (.int .u32 ((x).toNat : Int)) (hF.ol 0 (by kernel_rfl)) rfl
    · intro a1 w1 hG hF; exact s_old rfl (wants0 rfl) (.tmp 3) (.inr rfl) (.int .i64 ((c : Nat) : Int)) (hF.ol 3 (by kernel_rfl)) rfl
    · intro a1 w1 hG hF; obtain ⟨_, e18, rfl⟩ := hF.dp 9 18 (by kernel_rfl); obtain ⟨_, e19, rfl⟩ := hF.dp 10 19 (by kernel_rfl); exact s_is rfl (wants0 rfl) _ rfl (run_shr32 (a := x) (k := c) e18 e19 (by omega))
    · intro a1 w1 hG hF; obtain ⟨_, e17, rfl⟩ := hF.dp 8 17 (by kernel_rfl); obtain ⟨_, e20, rfl⟩ := hF.dp 11 20 (by kernel_rfl); exact s_is rfl (wants0 rfl) _ rfl (run_xor32 (a := (rr x a) ^^^ (rr x b)) (b := x >>> UInt32.ofNat c) e17 e20)
    · intro a1 w1 hG hF; exact s_same rfl (wants0 rfl) (.tmp 21) (.inl rfl) (hF.dp 12 21 (by kernel_rfl))
  · intro vs w1 hG hf; have z8 : vs 13 = .int .u32 ((((rr x a) ^^^ (rr x b)) ^^^ (x >>> UInt32.ofNat c)).toNat : Int) := hf.2.2.2.2.2.2.2.2.2.2.2.2.2.1; clear hf
    replace z8 : vs 13 = .int .u32 ((mvd x a b c).toNat : Int) := z8
    simp only [putAll, Nat.zero_add, Nat.reduceAdd, z8]; clear z8; go_simp; go_wp2_with fail
    go_ret
    exact ⟨rfl, (Gr.drew w).trans hG⟩
end Go.Proofs.YtjpphldojbfpfaaGreatDoor
namespace Go.Proofs.YtjpphldojbfpfaaGreatDoor
open Go.RowKit
theorem info64 (l : List UInt32) (h : l.length = 64) : (Tryz.prog.info? 165).map (·.size) = some (u32s l).length := by simp only [u32s_length, h]; kernel_rfl
theorem wordB_toNat {b : List UInt8} {k : Nat} : ((wordB b k).toNat : Int) = (beNat ((b.drop (4 * k)).take 4) : Nat) := by
  have h := beNat_lt ((b.drop (4 * k)).take 4); have h2 : 256 ^ ((b.drop (4 * k)).take 4).length ≤ 256 ^ 4 := Nat.pow_le_pow_right (by omega) (by rw [List.length_take]; omega); rw [wordB, UInt32.toNat_ofNat']; omega
set_option maxRecDepth 100000 in
set_option maxHeartbeats 4000000 in
theorem schedule_any (A : Option Addr) (c : Nat) (b : List UInt8) (hc : 64 ≤ c) (w : World) (hr : Rd w A 64 (u8s b)) :
    Calls Tryz.prog 89 #[.slice A 64 c] w fun e w' => e = .returned (.agg (u32s (schedU b)).toArray) ∧ Below w.heap.size w w' := by
  go_enter Tryz.func89, Tryz.ntmps89
  go_wp2_with fail
  generalize hW : (w.alloc _).alloc _ = W; obtain ⟨g2, hg2⟩ : ∃ g, g = w.heap.size := ⟨_, rfl⟩; obtain ⟨g3, hg3⟩ : ∃ g, g = w.heap.size + 1 := ⟨_, rfl⟩
  have hM : Mem g2 w W [(g3, 165, u32s (wA b 0)), (g2, 165, u32s (List.replicate 64 0))] := by
    have h := ((Mem.nil w).new (t := 165) (C := (u32s (List.replicate 64 0)).toArray) (cs := u32s (List.replicate 64 0)) (Nat.le_refl _) (by simp)).new (t := 165) (C := (u32s (wA b 0)).toArray) (cs := u32s (wA b 0)) (Nat.le_refl _) (by simp); rw [asz] at h; rw [← hW, hg2, hg3]; exact h
  have hB0 : g2 ≤ w.heap.size := by omega
  simp only [← hg3]; simp only [← hg2]; have HG := Lib.hid hg2; clear hW hg2 hg3; obtain ⟨F, hF⟩ : ∃ F : Nat → List UInt32, F = wA b := ⟨_, rfl⟩; have HFL : Hid (∀ r, (F r).length = 64) := by intro r; rw [hF]; simp
  have HFS : Hid (∀ r, (F r).set r (wordB b r) = F (r + 1)) := by intro r; rw [hF]; rfl
  have HFE : Hid (∀ r, F r = wA b r) := by intro r; rw [hF]
  rw [← hF] at hM; clear hF
  go_loopw [6] (fun i wr => ∃ r : Nat, r ≤ 16 ∧ i = .int .i64 r ∧ Mem g2 w wr [(g3, 165, u32s (F r)), (g2, 165, u32s (List.replicate 64 0))]) (fun i _ => 16 - (intOf i).toNat)
  case atStart => exact ⟨0, by omega, rfl, hM⟩
  case round =>
    clear hM; obtain ⟨r, hr16, rfl, hM⟩ := hrel
    by_cases hlt : r < 16
    · have hcut := fun w1 => run_cut_lh (P := Tryz.prog) Tryz.underlying43 (by kernel_rfl) (A := A) (n := 64) (c := c) (lo := 4 * r) (hi := 4 * r + 4) (l := 4 * (r : Int)) (h := 4 * (r : Int) + 4) (by omega) (by omega) (by omega) (by omega) w1; rw [show 4 * r + 4 - 4 * r = 4 by omega] at hcut; have hrd := (hr.below (HG.out ▸ hM.below)).cutLH (lo := 4 * r) (hi := 4 * r + 4) (by omega) (by omega) hc; rw [show 4 * r + 4 - 4 * r = 4 by omega, u8s_drop, u8s_take] at hrd; have h32 := fun w c h => high32_any (cutA A c (4 * r)) (c - 4 * r) ((b.drop (4 * r)).take 4) w h; simp only [← wordB_toNat (b := b) (k := r)] at h32; obtain ⟨x, hx⟩ : ∃ x, x = wordB b r := ⟨_, rfl⟩; rw [← hx] at h32; have c3 := (hM.at_ 0 rfl).u32 (a := r) (by rw [HFL.out]; omega); have f3 := (hM.at_ 0 rfl).frozen r; have hM' := hM.set 0 rfl r (.int .u32 (x.toNat : Int)); rw [u32s_set, hx, HFS.out r, ← hx] at hM'; simp only [List.set] at hM'; have H32 := Lib.hid h32; clear hx h32
      go_wp2_with (go_at_call 123; refine (H32.out _ _ hrd).mono ?_; rintro e w1 ⟨rfl, rfl⟩)
      exact ⟨⟨r + 1, by omega, by go_num, hM'⟩, by simp [intOf]; omega⟩
    · obtain rfl : r = 16 := by omega
      obtain ⟨G, hG⟩ : ∃ G : Nat → List UInt32, G = wB (F 16) := ⟨_, rfl⟩; have HGL : Hid (∀ r, (G r).length = 64) := by intro r; rw [hG, wB_length, HFL.out]
      have HGS : Hid (∀ r, (G r).set (16 + r) (wS (G r) r) = G (r + 1)) := by intro r; rw [hG]; rfl
      have HGE : Hid (∀ r, r = 48 → schedU b = G r) := by intro r hr; rw [hr, hG, HFE.out]; rfl
      have hG0 : F 16 = G 0 := by rw [hG]; rfl
      rw [hG0] at hM; clear hG hG0 hlt hr; simp only [show ((16 : Nat) : Int) = 16 from rfl]; go_wp2_with fail
      go_loopw [5] (fun i wr => ∃ r : Nat, r ≤ 48 ∧ i = .int .i64 ((16 + r : Nat) : Int) ∧ Mem g2 w wr [(g3, 165, u32s (G r)), (g2, 165, u32s (List.replicate 64 0))]) (fun i _ => 64 - (intOf i).toNat)
      case atStart => exact ⟨0, by omega, rfl, hM⟩
      case round =>
        clear hM; obtain ⟨r, hr, rfl, hM⟩ := hrel; obtain ⟨t, ht⟩ : ∃ t, t = 16 + r := ⟨_, rfl⟩; rw [← ht]
        by_cases hlt : t < 64
        · have ht16 : 16 ≤ t := by omega
          obtain ⟨x2, hx2⟩ : ∃ x, x = (G r).getD (t - 2) 0 := ⟨_, rfl⟩; obtain ⟨x7, hx7⟩ : ∃ x, x = (G r).getD (t - 7) 0 := ⟨_, rfl⟩; obtain ⟨x15, hx15⟩ : ∃ x, x = (G r).getD (t - 15) 0 := ⟨_, rfl⟩; obtain ⟨x16, hx16⟩ : ∃ x, x = (G r).getD (t - 16) 0 := ⟨_, rfl⟩; have c2 := (hM.at_ 0 rfl).u32 (a := t - 2) (by rw [HGL.out]; omega); have c7 := (hM.at_ 0 rfl).u32 (a := t - 7) (by rw [HGL.out]; omega); have c15 := (hM.at_ 0 rfl).u32 (a := t - 15) (by rw [HGL.out]; omega); have c16 := (hM.at_ 0 rfl).u32 (a := t - 16) (by rw [HGL.out]; omega); rw [← hx2] at c2; rw [← hx7] at c7; rw [← hx15] at c15; rw [← hx16] at c16; obtain ⟨x, hx⟩ : ∃ x, x = mvd x2 17 19 10 + x7 + mvd x15 7 18 3 + x16 := ⟨_, rfl⟩
          have hxs : (G r).set t x = G (r + 1) := by
            rw [← HGS.out r, ht, hx, wS, hx2, hx7, hx15, hx16, ht, show 16 + r - 2 = 14 + r by omega, show 16 + r - 7 = 9 + r by omega, show 16 + r - 15 = 1 + r by omega, show 16 + r - 16 = r by omega]
          have HXS := Lib.hid hxs; have HX := Lib.hid hx; have HT := Lib.hid ht; have hlr : r < 48 := by omega
          clear hx2 hx7 hx15 hx16 hx hxs ht; go_wp2_with fail
          refine wp_region_cut (by kernel_rfl) [IsV (.int .i64 ((t : Nat) : Int)), IsV (.int .i64 ((t : Nat) : Int)), IsV (.int .i64 ((t - 2 : Nat) : Int)), IsV (.pointer (some ⟨g3, t - 2, none⟩)), IsV (.int .u32 ((x2).toNat : Int)), IsV (.int .u32 ((mvd x2 17 19 10).toNat : Int)), IsV (.int .i64 ((t : Nat) : Int)), IsV (.int .i64 ((t - 7 : Nat) : Int)), IsV (.pointer (some ⟨g3, t - 7, none⟩)), IsV (.int .u32 ((x7).toNat : Int)), IsV (.int .u32 (((mvd x2 17 19 10) + x7).toNat : Int)), IsV (.int .i64 ((t : Nat) : Int)), IsV (.int .i64 ((t - 15 : Nat) : Int)), IsV (.pointer (some ⟨g3, t - 15, none⟩)), IsV (.int .u32 ((x15).toNat : Int)), IsV (.int .u32 ((mvd x15 7 18 3).toNat : Int)), IsV (.int .u32 ((((mvd x2 17 19 10) + x7) + (mvd x15 7 18 3)).toNat : Int)), IsV (.int .i64 ((t : Nat) : Int)), IsV (.int .i64 ((t - 16 : Nat) : Int)), IsV (.pointer (some ⟨g3, t - 16, none⟩)), IsV (.int .u32 ((x16).toNat : Int)), IsV (.int .u32 (((((mvd x2 17 19 10) + x7) + (mvd x15 7 18 3)) + x16).toNat : Int)), IsV (.pointer (some ⟨g3, t, none⟩))] 23 (by decide) (by kernel_rfl) (by kernel_rfl) (by kernel_rfl) ?_ ?_ ?_
          · intro φ hφ v w1 w2 h hg; simp only [List.mem_cons, List.not_mem_nil, or_false] at hφ; rcases hφ with rfl | rfl | rfl | rfl | rfl | rfl | rfl | rfl | rfl | rfl | rfl | rfl | rfl | rfl | rfl | rfl | rfl | rfl | rfl | rfl | rfl | rfl | rfl
            all_goals first | exact h | exact RdV.gr h hg
          · refine ⟨?_, ?_, ?_, ?_, ?_, ?_, ?_, ?_, ?_, ?_, ?_, ?_, ?_, ?_, ?_, ?_, ?_, ?_, ?_, ?_, ?_, ?_, ?_, trivial⟩
            · intro a1 w1 hG hF; exact s_old rfl (wants0 rfl) (.tmp 5) (.inr rfl) (.int .i64 ((t : Nat) : Int)) (hF.ol 5 (by kernel_rfl)) rfl
            · intro a1 w1 hG hF; exact s_old rfl (wants0 rfl) (.tmp 5) (.inr rfl) (.int .i64 ((t : Nat) : Int)) (hF.ol 5 (by kernel_rfl)) rfl
            · intro a1 w1 hG hF; obtain ⟨_, e28, rfl⟩ := hF.dp 1 28 (by kernel_rfl); exact s_is rfl (wants0 rfl) _ rfl (run_subN (a := t) (b := 2) e28 rfl (by omega) (by omega))
            · intro a1 w1 hG hF; have e3 : a1.eval (.tmp 3) = .pointer (some ⟨g3, 0, none⟩) := hF.ol 3 (by kernel_rfl); obtain ⟨_, e29, rfl⟩ := hF.dp 2 29 (by kernel_rfl); exact s_is rfl (wants0 rfl) _ rfl (run_idx (i := t - 2) Tryz.underlying165 (by kernel_rfl) e3 e29 (by omega))
            · intro a1 w1 hG hF; obtain ⟨_, e30, rfl⟩ := hF.dp 3 30 (by kernel_rfl); exact s_is rfl (wants0 rfl) _ rfl (run_load1 Tryz.underlying119 e30 (Gr.cell ((Gr.drew wr).trans hG) c2))
            · intro a1 w1 hG hF; obtain ⟨_, e31, rfl⟩ := hF.dp 4 31 (by kernel_rfl); exact s_call rfl (wants0 rfl) _ rfl _ _ (by simp only [execOp, resolve, invoke, List.map_toArray, List.map_cons, List.map_nil, e31]; go_simp) ((moved_any x2 17 19 10 (by omega) (by omega) (by omega) w1).mono fun e w2 ⟨he, hb⟩ => ⟨_, he, rfl, hb⟩)
            · intro a1 w1 hG hF; exact s_old rfl (wants0 rfl) (.tmp 5) (.inr rfl) (.int .i64 ((t : Nat) : Int)) (hF.ol 5 (by kernel_rfl)) rfl
            · intro a1 w1 hG hF; obtain ⟨_, e33, rfl⟩ := hF.dp 6 33 (by kernel_rfl); exact s_is rfl (wants0 rfl) _ rfl (run_subN (a := t) (b := 7) e33 rfl (by omega) (by omega))
            · intro a1 w1 hG hF; have e3 : a1.eval (.tmp 3) = .pointer (some ⟨g3, 0, none⟩) := hF.ol 3 (by kernel_rfl); obtain ⟨_, e34, rfl⟩ := hF.dp 7 34 (by kernel_rfl); exact s_is rfl (wants0 rfl) _ rfl (run_idx (i := t - 7) Tryz.underlying165 (by kernel_rfl) e3 e34 (by omega))
            · intro a1 w1 hG hF; obtain ⟨_, e35, rfl⟩ := hF.dp 8 35 (by kernel_rfl); exact s_is rfl (wants0 rfl) _ rfl (run_load1 Tryz.underlying119 e35 (Gr.cell ((Gr.drew wr).trans hG) c7))
            · intro a1 w1 hG hF; obtain ⟨_, e32, rfl⟩ := hF.dp 5 32 (by kernel_rfl); obtain ⟨_, e36, rfl⟩ := hF.dp 9 36 (by kernel_rfl); exact s_is rfl (wants0 rfl) _ rfl (run_add32 (a := mvd x2 17 19 10) (b := x7) e32 e36)
            · intro a1 w1 hG hF; exact s_old rfl (wants0 rfl) (.tmp 5) (.inr rfl) (.int .i64 ((t : Nat) : Int)) (hF.ol 5 (by kernel_rfl)) rfl
            · intro a1 w1 hG hF; obtain ⟨_, e38, rfl⟩ := hF.dp 11 38 (by kernel_rfl); exact s_is rfl (wants0 rfl) _ rfl (run_subN (a := t) (b := 15) e38 rfl (by omega) (by omega))
            · intro a1 w1 hG hF; have e3 : a1.eval (.tmp 3) = .pointer (some ⟨g3, 0, none⟩) := hF.ol 3 (by kernel_rfl); obtain ⟨_, e39, rfl⟩ := hF.dp 12 39 (by kernel_rfl); exact s_is rfl (wants0 rfl) _ rfl (run_idx (i := t - 15) Tryz.underlying165 (by kernel_rfl) e3 e39 (by omega))
            · intro a1 w1 hG hF; obtain ⟨_, e40, rfl⟩ := hF.dp 13 40 (by kernel_rfl); exact s_is rfl (wants0 rfl) _ rfl (run_load1 Tryz.underlying119 e40 (Gr.cell ((Gr.drew wr).trans hG) c15))
            · intro a1 w1 hG hF; obtain ⟨_, e41, rfl⟩ := hF.dp 14 41 (by kernel_rfl); exact s_call rfl (wants0 rfl) _ rfl _ _ (by simp only [execOp, resolve, invoke, List.map_toArray, List.map_cons, List.map_nil, e41]; go_simp) ((moved_any x15 7 18 3 (by omega) (by omega) (by omega) w1).mono fun e w2 ⟨he, hb⟩ => ⟨_, he, rfl, hb⟩)
            · intro a1 w1 hG hF; obtain ⟨_, e37, rfl⟩ := hF.dp 10 37 (by kernel_rfl); obtain ⟨_, e42, rfl⟩ := hF.dp 15 42 (by kernel_rfl); exact s_is rfl (wants0 rfl) _ rfl (run_add32 (a := (mvd x2 17 19 10) + x7) (b := mvd x15 7 18 3) e37 e42)
            · intro a1 w1 hG hF; exact s_old rfl (wants0 rfl) (.tmp 5) (.inr rfl) (.int .i64 ((t : Nat) : Int)) (hF.ol 5 (by kernel_rfl)) rfl
            · intro a1 w1 hG hF; obtain ⟨_, e44, rfl⟩ := hF.dp 17 44 (by kernel_rfl); exact s_is rfl (wants0 rfl) _ rfl (run_subN (a := t) (b := 16) e44 rfl (by omega) (by omega))
            · intro a1 w1 hG hF; have e3 : a1.eval (.tmp 3) = .pointer (some ⟨g3, 0, none⟩) := hF.ol 3 (by kernel_rfl); obtain ⟨_, e45, rfl⟩ := hF.dp 18 45 (by kernel_rfl); exact s_is rfl (wants0 rfl) _ rfl (run_idx (i := t - 16) Tryz.underlying165 (by kernel_rfl) e3 e45 (by omega))
            · intro a1 w1 hG hF; obtain ⟨_, e46, rfl⟩ := hF.dp 19 46 (by kernel_rfl); exact s_is rfl (wants0 rfl) _ rfl (run_load1 Tryz.underlying119 e46 (Gr.cell ((Gr.drew wr).trans hG) c16))
            · intro a1 w1 hG hF; obtain ⟨_, e43, rfl⟩ := hF.dp 16 43 (by kernel_rfl); obtain ⟨_, e47, rfl⟩ := hF.dp 20 47 (by kernel_rfl); exact s_is rfl (wants0 rfl) _ rfl (run_add32 (a := ((mvd x2 17 19 10) + x7) + (mvd x15 7 18 3)) (b := x16) e43 e47)
            · intro a1 w1 hG hF; have e3 : a1.eval (.tmp 3) = .pointer (some ⟨g3, 0, none⟩) := hF.ol 3 (by kernel_rfl); obtain ⟨_, e27, rfl⟩ := hF.dp 0 27 (by kernel_rfl); exact s_is rfl (wants0 rfl) _ rfl (run_idx (i := t) Tryz.underlying165 (by kernel_rfl) e3 e27 (by omega))
          · intro vs w1 hG hf; have z48 : vs 21 = .int .u32 (((((mvd x2 17 19 10) + x7) + (mvd x15 7 18 3)) + x16).toNat : Int) := hf.2.2.2.2.2.2.2.2.2.2.2.2.2.2.2.2.2.2.2.2.2.1; have z49 : vs 22 = .pointer (some ⟨g3, t, none⟩) := hf.2.2.2.2.2.2.2.2.2.2.2.2.2.2.2.2.2.2.2.2.2.2.1; clear hf; rw [← HX.out] at z48; simp only [List.take_succ_cons, List.take_zero, List.drop_succ_cons, List.drop_zero, putAll, Nat.zero_add, Nat.reduceAdd, z48, z49]; have hM1 := hM.gr hB0 ((Gr.drew wr).trans hG); refine wpList_setM hM1 0 rfl rfl 119 (.tmp 49) (.tmp 48) rfl (by kernel_rfl) t .u32 (x.toNat : Int) (by kernel_rfl) (by kernel_rfl) (by rw [u32s_length, HGL.out]; omega) ?_; intro w2 hM2 _; rw [u32s_set, HXS.out] at hM2; simp only [List.set] at hM2; clear hM hM1 hG c2 c7 c15 c16; unfold wpList; go_simp; go_wp2_with fail
            have HT2 := HT.out; exact ⟨⟨r + 1, by omega, by congr 1; omega, hM2⟩, by simp [intOf]; omega⟩
        · obtain rfl : r = 48 := by omega
          obtain rfl : t = 64 := by omega
          have hGe := HGE.out 48 rfl; obtain ⟨q, hq⟩ : ∃ q, q = G 48 := ⟨_, rfl⟩; have hql : q.length = 64 := by rw [hq]; exact HGL.out 48
          rw [← hq] at hM hGe; have HGE2 := Lib.hid hGe; clear hq hGe HGE HGS HGL ht hlt hr; simp only [show ((64 : Nat) : Int) = 64 from rfl]
          go_wp2_with first
            | (refine wpList_load_mid rfl 165 (.tmp 3) rfl g3 0 rfl (u32s q) _ (hM.at_ 0 rfl).range Tryz.underlying165 rfl (info64 _ hql) ?_)
            | (refine wpList_putM hM 1 rfl rfl 165 (.tmp 2) (.tmp 50) rfl (u32s q) rfl rfl (by simp [hql]) (info64 _ hql) (u32s_oneCell _) ?_; intro w7 hM7 _)
          simp only [List.set] at hM7; refine bodyPost_ret (results_cell_row rfl _ _ g2 _ _ _ _ rfl (hM7.at_ 1 rfl) Tryz.underlying165 rfl (by have := info64 _ hql; simpa using this)) rfl ?_; rw [HGE2.out]; exact ⟨rfl, by have := hM7.below; rw [HG.out] at this; exact this⟩
end Go.Proofs.YtjpphldojbfpfaaGreatDoor
namespace Go.Proofs.YtjpphldojbfpfaaGreatDoor
open Go.RowKit
theorem info8 (l : List UInt32) (h : l.length = 8) : (Tryz.prog.info? 120).map (·.size) = some (u32s l).length := by simp only [u32s_length, h]; kernel_rfl
def addAt (h v : List UInt32) : Nat → List UInt32
  | 0 => h
  | k + 1 => (addAt h v k).set k ((addAt h v k).getD k 0 + v.getD k 0)
@[simp] theorem addAt_length (h v : List UInt32) (k : Nat) : (addAt h v k).length = h.length := by
  induction k with
  | zero => rfl
  | succ k ih => rw [addAt, List.length_set, ih]
theorem addAt_all {h v : List UInt32} (hh : h.length = 8) (hv : v.length = 8) : addAt h v 8 = addU h v := by
  obtain ⟨a, b, c, d, e, f, g, i, rfl⟩ := eightU hh; obtain ⟨a', b', c', d', e', f', g', i', rfl⟩ := eightU hv; rfl
theorem add32_mod (a b : UInt32) : ((a.toNat : Int) + (b.toNat : Int)) % 4294967296 = ((a + b).toNat : Int) := by rw [UInt32.toNat_add]; omega
set_option maxRecDepth 100000 in
set_option maxHeartbeats 8000000 in
theorem mix2_any (h : List UInt32) (hh : h.length = 8) (A : Option Addr) (c : Nat) (b : List UInt8) (hc : 64 ≤ c) (w : World) (hr : Rd w A 64 (u8s b)) (gw : Glob w) :
    Calls Tryz.prog 44 #[.agg (u32s h).toArray, .slice A 64 c] w fun e w' => e = .returned (.agg (u32s (mixU h b)).toArray) ∧ Below w.heap.size w w' := by
  have hs := fun w hr => schedule_any A c b hc w hr; obtain ⟨S, hS⟩ : ∃ S, S = schedU b := ⟨_, rfl⟩; have hSl : S.length = 64 := by rw [hS]; simp
  have hmix : mixU h b = addU h (rndU h S 64) := by rw [hS]; rfl
  rw [← hS] at hs; have HSC := Lib.hid hs; clear hS hs
  go_enter Tryz.func44, Tryz.ntmps44
  go_wp2_with fail
  generalize hW : (w.alloc _).alloc _ = W; obtain ⟨g2, hg2⟩ : ∃ g, g = w.heap.size := ⟨_, rfl⟩; obtain ⟨g4, hg4⟩ : ∃ g, g = w.heap.size + 1 := ⟨_, rfl⟩
  have hM : Mem g2 w W [(g4, 120, u32s (List.replicate 8 0)), (g2, 120, u32s h)] := by
    have h := ((Mem.nil w).new (t := 120) (C := (u32s h).toArray) (cs := u32s h) (Nat.le_refl _) rfl).new (t := 120) (C := (u32s (List.replicate 8 0)).toArray) (cs := u32s (List.replicate 8 0)) (Nat.le_refl _) (by simp); rw [asz] at h; rw [← hW, hg2, hg4]; exact h
  have hB0 : g2 ≤ w.heap.size := by omega
  simp only [← hg4]; simp only [← hg2]; have HG := Lib.hid hg2; have hrW := hr.below (HG.out ▸ hM.below); have HMX := Lib.hid hmix; clear hW hg2 hg4 hr hmix
  go_wp2_with first
    | (go_at_call 89; refine (HSC.out _ hrW).mono ?_; rintro e w1 ⟨rfl, hB1⟩; replace hM := hM.gr hB0 hB1; clear hB1 hrW)
    | (refine wpList_newM hM hB0 rfl 165 (.tmp 5) (.tmp 12) rfl _ (u32s S) rfl rfl rfl (by simp only [u32s_length, hSl]; rfl) (info64 S hSl) (u32s_oneCell _) ?_; intro w3 hM3 _; clear hM)
    | (refine wpList_load_mid rfl 120 (.tmp 2) rfl g2 0 rfl (u32s h) _ (hM3.at_ 2 rfl).range Tryz.underlying120 rfl (info8 _ hh) ?_)
    | (refine wpList_newM hM3 hB0 rfl 120 (.tmp 6) (.tmp 13) rfl _ (u32s h) rfl rfl rfl (by simp only [u32s_length, hh]; rfl) (info8 h hh) (u32s_oneCell _) ?_; intro w4 hM _; clear hM3)
  generalize w1.heap.size = g5 at hM ⊢; generalize w3.heap.size = g6 at hM ⊢; obtain ⟨V, hV⟩ : ∃ V : Nat → List UInt32, V = rndU h S := ⟨_, rfl⟩; have HVL : Hid (∀ r, (V r).length = 8) := by intro r; rw [hV]; exact rndU_length S hh r
  have HVS : Hid (∀ r, roundU (V r) (keysL.getD r 0) (S.getD r 0) = V (r + 1)) := by intro r; rw [hV]; rfl
  have HVE : Hid (∀ r, r = 64 → mixU h b = addU h (V r)) := by intro r hr; rw [hr, hV]; exact HMX.out
  have hV0 : u32s h = u32s (V 0) := by rw [hV]; rfl
  have hM : Mem g2 w w4 [(g6, 120, u32s (V 0)), (g5, 165, u32s S), (g4, 120, u32s (List.replicate 8 0)), (g2, 120, u32s h)] := by rw [← hV0]; exact hM
  clear hV hV0 HMX
  go_loopw [14] (fun i wr => ∃ r : Nat, r ≤ 64 ∧ i = .int .i64 r ∧ Mem g2 w wr [(g6, 120, u32s (V r)), (g5, 165, u32s S), (g4, 120, u32s (List.replicate 8 0)), (g2, 120, u32s h)]) (fun i _ => 64 - (intOf i).toNat)
  case atStart => exact ⟨0, by omega, rfl, hM⟩
  case round =>
    clear hM; obtain ⟨r, hr64, rfl, hM⟩ := hrel
    by_cases hlt : r < 64
    · obtain ⟨a, b, c, d, e, f, g, i, hv⟩ := eightU (HVL.out r); obtain ⟨ww, hww⟩ : ∃ x, x = S.getD r 0 := ⟨_, rfl⟩; obtain ⟨kk, hkk⟩ : ∃ x, x = keysL.getD r 0 := ⟨_, rfl⟩; have ck := (gw.below (HG.out ▸ hM.below)).key hlt; rw [← hkk] at ck; have c5 := (hM.at_ 1 rfl).u32 (a := r) (by omega); rw [← hww] at c5; rw [hv] at hM; obtain ⟨x, hx⟩ : ∃ x, x = i + trn e 6 11 25 + (e &&& f ^^^ ~~~e &&& g) + kk + ww := ⟨_, rfl⟩; obtain ⟨y, hy⟩ : ∃ y, y = trn a 2 13 22 + (a &&& b ^^^ a &&& c ^^^ b &&& c) := ⟨_, rfl⟩
      have hnext : V (r + 1) = [x + y, a, b, c, d + x, e, f, g] := by
        rw [← HVS.out r, hv, ← hkk, ← hww, hx, hy]; rfl
      have HX := Lib.hid hx; have HY := Lib.hid hy; have HNX := Lib.hid hnext; have q0 := (hM.at_ 0 rfl).cell (i := 0) rfl; have q1 := (hM.at_ 0 rfl).cell (i := 1) rfl; have q2 := (hM.at_ 0 rfl).cell (i := 2) rfl; have q4 := (hM.at_ 0 rfl).cell (i := 4) rfl; have q5 := (hM.at_ 0 rfl).cell (i := 5) rfl; have q6 := (hM.at_ 0 rfl).cell (i := 6) rfl; have q7 := (hM.at_ 0 rfl).cell (i := 7) rfl; clear hv hww hkk hx hy hnext; go_wp2_with fail
      refine wp_region_ssaL (by kernel_rfl) [IsV (.pointer (some ⟨g6, 7, none⟩)), IsV (.int .u32 ((i).toNat : Int)), IsV (.pointer (some ⟨g6, 4, none⟩)), IsV (.int .u32 ((e).toNat : Int)), IsV (.int .u32 ((trn e 6 11 25).toNat : Int)), IsV (.int .u32 ((i + (trn e 6 11 25)).toNat : Int)), IsV (.pointer (some ⟨g6, 4, none⟩)), IsV (.int .u32 ((e).toNat : Int)), IsV (.pointer (some ⟨g6, 5, none⟩)), IsV (.int .u32 ((f).toNat : Int)), IsV (.int .u32 ((e &&& f).toNat : Int)), IsV (.pointer (some ⟨g6, 4, none⟩)), IsV (.int .u32 ((e).toNat : Int)), IsV (.int .u32 ((~~~e).toNat : Int)), IsV (.pointer (some ⟨g6, 6, none⟩)), IsV (.int .u32 ((g).toNat : Int)), IsV (.int .u32 (((~~~e) &&& g).toNat : Int)), IsV (.int .u32 (((e &&& f) ^^^ ((~~~e) &&& g)).toNat : Int)), IsV (.int .u32 (((i + (trn e 6 11 25)) + ((e &&& f) ^^^ ((~~~e) &&& g))).toNat : Int)), IsV (.int .i64 ((r : Nat) : Int)), IsV (.pointer (some ⟨1, r, none⟩)), IsV (.int .u32 ((kk).toNat : Int)), IsV (.int .u32 ((((i + (trn e 6 11 25)) + ((e &&& f) ^^^ ((~~~e) &&& g))) + kk).toNat : Int)), IsV (.int .i64 ((r : Nat) : Int)), IsV (.pointer (some ⟨g5, r, none⟩)), IsV (.int .u32 ((ww).toNat : Int)), IsV (.int .u32 (((((i + (trn e 6 11 25)) + ((e &&& f) ^^^ ((~~~e) &&& g))) + kk) + ww).toNat : Int)), IsV (.int .u32 (((((i + (trn e 6 11 25)) + ((e &&& f) ^^^ ((~~~e) &&& g))) + kk) + ww).toNat : Int))] (by kernel_rfl) ?_ ?_ ?_
      · intro φ hφ v w1 w2 h hg; simp only [List.mem_cons, List.not_mem_nil, or_false] at hφ; rcases hφ with rfl | rfl | rfl | rfl | rfl | rfl | rfl | rfl | rfl | rfl | rfl | rfl | rfl | rfl | rfl | rfl | rfl | rfl | rfl | rfl | rfl | rfl | rfl | rfl | rfl | rfl | rfl | rfl
        all_goals first | exact h | exact RdV.gr h hg
      · refine ⟨?_, ?_, ?_, ?_, ?_, ?_, ?_, ?_, ?_, ?_, ?_, ?_, ?_, ?_, ?_, ?_, ?_, ?_, ?_, ?_, ?_, ?_, ?_, ?_, ?_, ?_, ?_, ?_, trivial⟩
        · intro a1 w1 hG hF; have e6 : a1.eval (.tmp 6) = .pointer (some ⟨g6, 0, none⟩) := hF.ol 6 (by kernel_rfl); exact s_is rfl (wants0 rfl) _ rfl (run_idx (i := 7) Tryz.underlying120 (by kernel_rfl) e6 rfl (by omega))
        · intro a1 w1 hG hF; obtain ⟨_, e17, rfl⟩ := hF.dp 0 17 (by kernel_rfl); exact s_is rfl (wants0 rfl) _ rfl (run_load1 Tryz.underlying119 e17 (Gr.cell ((Gr.drew wr).trans hG) q7))
        · intro a1 w1 hG hF; have e6 : a1.eval (.tmp 6) = .pointer (some ⟨g6, 0, none⟩) := hF.ol 6 (by kernel_rfl); exact s_is rfl (wants0 rfl) _ rfl (run_idx (i := 4) Tryz.underlying120 (by kernel_rfl) e6 rfl (by omega))
        · intro a1 w1 hG hF; obtain ⟨_, e19, rfl⟩ := hF.dp 2 19 (by kernel_rfl); exact s_is rfl (wants0 rfl) _ rfl (run_load1 Tryz.underlying119 e19 (Gr.cell ((Gr.drew wr).trans hG) q4))
        · intro a1 w1 hG hF; obtain ⟨_, e20, rfl⟩ := hF.dp 3 20 (by kernel_rfl); exact s_call rfl (wants0 rfl) _ rfl _ _ (by simp only [execOp, resolve, invoke, List.map_toArray, List.map_cons, List.map_nil, e20]; go_simp) ((turned_any e 6 11 25 (by omega) (by omega) (by omega) w1).mono fun e w2 ⟨he, hw⟩ => ⟨_, he, rfl, hw ▸ Gr.refl _⟩)
        · intro a1 w1 hG hF; obtain ⟨_, e18, rfl⟩ := hF.dp 1 18 (by kernel_rfl); obtain ⟨_, e21, rfl⟩ := hF.dp 4 21 (by kernel_rfl); exact s_is rfl (wants0 rfl) _ rfl (run_add32 (a := i) (b := trn e 6 11 25) e18 e21)
        · intro a1 w1 hG hF; have e6 : a1.eval (.tmp 6) = .pointer (some ⟨g6, 0, none⟩) := hF.ol 6 (by kernel_rfl); exact s_is rfl (wants0 rfl) _ rfl (run_idx (i := 4) Tryz.underlying120 (by kernel_rfl) e6 rfl (by omega))
        · intro a1 w1 hG hF; obtain ⟨_, e23, rfl⟩ := hF.dp 6 23 (by kernel_rfl); exact s_is rfl (wants0 rfl) _ rfl (run_load1 Tryz.underlying119 e23 (Gr.cell ((Gr.drew wr).trans hG) q4))
        · intro a1 w1 hG hF; have e6 : a1.eval (.tmp 6) = .pointer (some ⟨g6, 0, none⟩) := hF.ol 6 (by kernel_rfl); exact s_is rfl (wants0 rfl) _ rfl (run_idx (i := 5) Tryz.underlying120 (by kernel_rfl) e6 rfl (by omega))
        · intro a1 w1 hG hF; obtain ⟨_, e25, rfl⟩ := hF.dp 8 25 (by kernel_rfl); exact s_is rfl (wants0 rfl) _ rfl (run_load1 Tryz.underlying119 e25 (Gr.cell ((Gr.drew wr).trans hG) q5))
        · intro a1 w1 hG hF; obtain ⟨_, e24, rfl⟩ := hF.dp 7 24 (by kernel_rfl); obtain ⟨_, e26, rfl⟩ := hF.dp 9 26 (by kernel_rfl); exact s_is rfl (wants0 rfl) _ rfl (run_and32 (a := e) (b := f) e24 e26)
        · intro a1 w1 hG hF; have e6 : a1.eval (.tmp 6) = .pointer (some ⟨g6, 0, none⟩) := hF.ol 6 (by kernel_rfl); exact s_is rfl (wants0 rfl) _ rfl (run_idx (i := 4) Tryz.underlying120 (by kernel_rfl) e6 rfl (by omega))
        · intro a1 w1 hG hF; obtain ⟨_, e28, rfl⟩ := hF.dp 11 28 (by kernel_rfl); exact s_is rfl (wants0 rfl) _ rfl (run_load1 Tryz.underlying119 e28 (Gr.cell ((Gr.drew wr).trans hG) q4))
        · intro a1 w1 hG hF; obtain ⟨_, e29, rfl⟩ := hF.dp 12 29 (by kernel_rfl); exact s_is rfl (wants0 rfl) _ rfl (run_not32 e29)
        · intro a1 w1 hG hF; have e6 : a1.eval (.tmp 6) = .pointer (some ⟨g6, 0, none⟩) := hF.ol 6 (by kernel_rfl); exact s_is rfl (wants0 rfl) _ rfl (run_idx (i := 6) Tryz.underlying120 (by kernel_rfl) e6 rfl (by omega))
        · intro a1 w1 hG hF; obtain ⟨_, e31, rfl⟩ := hF.dp 14 31 (by kernel_rfl); exact s_is rfl (wants0 rfl) _ rfl (run_load1 Tryz.underlying119 e31 (Gr.cell ((Gr.drew wr).trans hG) q6))
        · intro a1 w1 hG hF; obtain ⟨_, e30, rfl⟩ := hF.dp 13 30 (by kernel_rfl); obtain ⟨_, e32, rfl⟩ := hF.dp 15 32 (by kernel_rfl); exact s_is rfl (wants0 rfl) _ rfl (run_and32 (a := ~~~e) (b := g) e30 e32)
        · intro a1 w1 hG hF; obtain ⟨_, e27, rfl⟩ := hF.dp 10 27 (by kernel_rfl); obtain ⟨_, e33, rfl⟩ := hF.dp 16 33 (by kernel_rfl); exact s_is rfl (wants0 rfl) _ rfl (run_xor32 (a := e &&& f) (b := (~~~e) &&& g) e27 e33)
        · intro a1 w1 hG hF; obtain ⟨_, e22, rfl⟩ := hF.dp 5 22 (by kernel_rfl); obtain ⟨_, e34, rfl⟩ := hF.dp 17 34 (by kernel_rfl); exact s_is rfl (wants0 rfl) _ rfl (run_add32 (a := i + (trn e 6 11 25)) (b := (e &&& f) ^^^ ((~~~e) &&& g)) e22 e34)
        · intro a1 w1 hG hF; exact s_old rfl (wants0 rfl) (.tmp 7) (.inr rfl) (.int .i64 ((r : Nat) : Int)) (hF.ol 7 (by kernel_rfl)) rfl
        · intro a1 w1 hG hF; obtain ⟨_, e36, rfl⟩ := hF.dp 19 36 (by kernel_rfl); exact s_is rfl (wants0 rfl) _ rfl (run_idx (i := r) Tryz.underlying165 (by kernel_rfl) rfl e36 (by omega))
        · intro a1 w1 hG hF; obtain ⟨_, e37, rfl⟩ := hF.dp 20 37 (by kernel_rfl); exact s_is rfl (wants0 rfl) _ rfl (run_load1 Tryz.underlying119 e37 (Gr.cell ((Gr.drew wr).trans hG) ck))
        · intro a1 w1 hG hF; obtain ⟨_, e35, rfl⟩ := hF.dp 18 35 (by kernel_rfl); obtain ⟨_, e38, rfl⟩ := hF.dp 21 38 (by kernel_rfl); exact s_is rfl (wants0 rfl) _ rfl (run_add32 (a := (i + (trn e 6 11 25)) + ((e &&& f) ^^^ ((~~~e) &&& g))) (b := kk) e35 e38)
        · intro a1 w1 hG hF; exact s_old rfl (wants0 rfl) (.tmp 7) (.inr rfl) (.int .i64 ((r : Nat) : Int)) (hF.ol 7 (by kernel_rfl)) rfl
        · intro a1 w1 hG hF; have e5 : a1.eval (.tmp 5) = .pointer (some ⟨g5, 0, none⟩) := hF.ol 5 (by kernel_rfl); obtain ⟨_, e40, rfl⟩ := hF.dp 23 40 (by kernel_rfl); exact s_is rfl (wants0 rfl) _ rfl (run_idx (i := r) Tryz.underlying165 (by kernel_rfl) e5 e40 (by omega))
        · intro a1 w1 hG hF; obtain ⟨_, e41, rfl⟩ := hF.dp 24 41 (by kernel_rfl); exact s_is rfl (wants0 rfl) _ rfl (run_load1 Tryz.underlying119 e41 (Gr.cell ((Gr.drew wr).trans hG) c5))
        · intro a1 w1 hG hF; obtain ⟨_, e39, rfl⟩ := hF.dp 22 39 (by kernel_rfl); obtain ⟨_, e42, rfl⟩ := hF.dp 25 42 (by kernel_rfl); exact s_is rfl (wants0 rfl) _ rfl (run_add32 (a := ((i + (trn e 6 11 25)) + ((e &&& f) ^^^ ((~~~e) &&& g))) + kk) (b := ww) e39 e42)
        · intro a1 w1 hG hF; exact s_same rfl (wants0 rfl) (.tmp 43) (.inl rfl) (hF.dp 26 43 (by kernel_rfl))
      · intro vs w1 hG hf; have z8 : vs 27 = .int .u32 (((((i + (trn e 6 11 25)) + ((e &&& f) ^^^ ((~~~e) &&& g))) + kk) + ww).toNat : Int) := hf.2.2.2.2.2.2.2.2.2.2.2.2.2.2.2.2.2.2.2.2.2.2.2.2.2.2.2.1; clear hf; rw [← HX.out] at z8; simp only [putAll, Nat.zero_add, Nat.reduceAdd, z8]
        replace hM := hM.gr hB0 ((Gr.drew wr).trans hG)
        clear z8 ck c5 q0 q1 q2 q4 q5 q6 q7 hG; have q0 := (hM.at_ 0 rfl).cell (i := 0) rfl; have q1 := (hM.at_ 0 rfl).cell (i := 1) rfl; have q2 := (hM.at_ 0 rfl).cell (i := 2) rfl; generalize w1 = wx at hM q0 q1 q2 ⊢; go_simp; go_wp2_with fail
        refine wp_region_ssaL (by kernel_rfl) [IsV (.pointer (some ⟨g6, 0, none⟩)), IsV (.int .u32 ((a).toNat : Int)), IsV (.int .u32 ((trn a 2 13 22).toNat : Int)), IsV (.pointer (some ⟨g6, 0, none⟩)), IsV (.int .u32 ((a).toNat : Int)), IsV (.pointer (some ⟨g6, 1, none⟩)), IsV (.int .u32 ((b).toNat : Int)), IsV (.int .u32 ((a &&& b).toNat : Int)), IsV (.pointer (some ⟨g6, 0, none⟩)), IsV (.int .u32 ((a).toNat : Int)), IsV (.pointer (some ⟨g6, 2, none⟩)), IsV (.int .u32 ((c).toNat : Int)), IsV (.int .u32 ((a &&& c).toNat : Int)), IsV (.int .u32 (((a &&& b) ^^^ (a &&& c)).toNat : Int)), IsV (.pointer (some ⟨g6, 1, none⟩)), IsV (.int .u32 ((b).toNat : Int)), IsV (.pointer (some ⟨g6, 2, none⟩)), IsV (.int .u32 ((c).toNat : Int)), IsV (.int .u32 ((b &&& c).toNat : Int)), IsV (.int .u32 ((((a &&& b) ^^^ (a &&& c)) ^^^ (b &&& c)).toNat : Int)), IsV (.int .u32 (((trn a 2 13 22) + (((a &&& b) ^^^ (a &&& c)) ^^^ (b &&& c))).toNat : Int)), IsV (.int .u32 (((trn a 2 13 22) + (((a &&& b) ^^^ (a &&& c)) ^^^ (b &&& c))).toNat : Int))] (by kernel_rfl) ?_ ?_ ?_
        · intro φ hφ v w1 w2 h hg; simp only [List.mem_cons, List.not_mem_nil, or_false] at hφ; rcases hφ with rfl | rfl | rfl | rfl | rfl | rfl | rfl | rfl | rfl | rfl | rfl | rfl | rfl | rfl | rfl | rfl | rfl | rfl | rfl | rfl | rfl | rfl
          all_goals first | exact h | exact RdV.gr h hg
        · refine ⟨?_, ?_, ?_, ?_, ?_, ?_, ?_, ?_, ?_, ?_, ?_, ?_, ?_, ?_, ?_, ?_, ?_, ?_, ?_, ?_, ?_, ?_, trivial⟩
          · intro a1 w1 hG hF; have e6 : a1.eval (.tmp 6) = .pointer (some ⟨g6, 0, none⟩) := hF.ol 6 (by kernel_rfl); exact s_is rfl (wants0 rfl) _ rfl (run_idx (i := 0) Tryz.underlying120 (by kernel_rfl) e6 rfl (by omega))
          · intro a1 w1 hG hF; obtain ⟨_, e44, rfl⟩ := hF.dp 0 44 (by kernel_rfl); exact s_is rfl (wants0 rfl) _ rfl (run_load1 Tryz.underlying119 e44 (Gr.cell ((Gr.drew wx).trans hG) q0))
          · intro a1 w1 hG hF; obtain ⟨_, e45, rfl⟩ := hF.dp 1 45 (by kernel_rfl); exact s_call rfl (wants0 rfl) _ rfl _ _ (by simp only [execOp, resolve, invoke, List.map_toArray, List.map_cons, List.map_nil, e45]; go_simp) ((turned_any a 2 13 22 (by omega) (by omega) (by omega) w1).mono fun e w2 ⟨he, hw⟩ => ⟨_, he, rfl, hw ▸ Gr.refl _⟩)
          · intro a1 w1 hG hF; have e6 : a1.eval (.tmp 6) = .pointer (some ⟨g6, 0, none⟩) := hF.ol 6 (by kernel_rfl); exact s_is rfl (wants0 rfl) _ rfl (run_idx (i := 0) Tryz.underlying120 (by kernel_rfl) e6 rfl (by omega))
          · intro a1 w1 hG hF; obtain ⟨_, e47, rfl⟩ := hF.dp 3 47 (by kernel_rfl); exact s_is rfl (wants0 rfl) _ rfl (run_load1 Tryz.underlying119 e47 (Gr.cell ((Gr.drew wx).trans hG) q0))
          · intro a1 w1 hG hF; have e6 : a1.eval (.tmp 6) = .pointer (some ⟨g6, 0, none⟩) := hF.ol 6 (by kernel_rfl); exact s_is rfl (wants0 rfl) _ rfl (run_idx (i := 1) Tryz.underlying120 (by kernel_rfl) e6 rfl (by omega))
          · intro a1 w1 hG hF; obtain ⟨_, e49, rfl⟩ := hF.dp 5 49 (by kernel_rfl); exact s_is rfl (wants0 rfl) _ rfl (run_load1 Tryz.underlying119 e49 (Gr.cell ((Gr.drew wx).trans hG) q1))
          · intro a1 w1 hG hF; obtain ⟨_, e48, rfl⟩ := hF.dp 4 48 (by kernel_rfl); obtain ⟨_, e50, rfl⟩ := hF.dp 6 50 (by kernel_rfl); exact s_is rfl (wants0 rfl) _ rfl (run_and32 (a := a) (b := b) e48 e50)
          · intro a1 w1 hG hF; have e6 : a1.eval (.tmp 6) = .pointer (some ⟨g6, 0, none⟩) := hF.ol 6 (by kernel_rfl); exact s_is rfl (wants0 rfl) _ rfl (run_idx (i := 0) Tryz.underlying120 (by kernel_rfl) e6 rfl (by omega))
          · intro a1 w1 hG hF; obtain ⟨_, e52, rfl⟩ := hF.dp 8 52 (by kernel_rfl); exact s_is rfl (wants0 rfl) _ rfl (run_load1 Tryz.underlying119 e52 (Gr.cell ((Gr.drew wx).trans hG) q0))
          · intro a1 w1 hG hF; have e6 : a1.eval (.tmp 6) = .pointer (some ⟨g6, 0, none⟩) := hF.ol 6 (by kernel_rfl); exact s_is rfl (wants0 rfl) _ rfl (run_idx (i := 2) Tryz.underlying120 (by kernel_rfl) e6 rfl (by omega))
          · intro a1 w1 hG hF; obtain ⟨_, e54, rfl⟩ := hF.dp 10 54 (by kernel_rfl); exact s_is rfl (wants0 rfl) _ rfl (run_load1 Tryz.underlying119 e54 (Gr.cell ((Gr.drew wx).trans hG) q2))
          · intro a1 w1 hG hF; obtain ⟨_, e53, rfl⟩ := hF.dp 9 53 (by kernel_rfl); obtain ⟨_, e55, rfl⟩ := hF.dp 11 55 (by kernel_rfl); exact s_is rfl (wants0 rfl) _ rfl (run_and32 (a := a) (b := c) e53 e55)
          · intro a1 w1 hG hF; obtain ⟨_, e51, rfl⟩ := hF.dp 7 51 (by kernel_rfl); obtain ⟨_, e56, rfl⟩ := hF.dp 12 56 (by kernel_rfl); exact s_is rfl (wants0 rfl) _ rfl (run_xor32 (a := a &&& b) (b := a &&& c) e51 e56)
          · intro a1 w1 hG hF; have e6 : a1.eval (.tmp 6) = .pointer (some ⟨g6, 0, none⟩) := hF.ol 6 (by kernel_rfl); exact s_is rfl (wants0 rfl) _ rfl (run_idx (i := 1) Tryz.underlying120 (by kernel_rfl) e6 rfl (by omega))
          · intro a1 w1 hG hF; obtain ⟨_, e58, rfl⟩ := hF.dp 14 58 (by kernel_rfl); exact s_is rfl (wants0 rfl) _ rfl (run_load1 Tryz.underlying119 e58 (Gr.cell ((Gr.drew wx).trans hG) q1))
          · intro a1 w1 hG hF; have e6 : a1.eval (.tmp 6) = .pointer (some ⟨g6, 0, none⟩) := hF.ol 6 (by kernel_rfl); exact s_is rfl (wants0 rfl) _ rfl (run_idx (i := 2) Tryz.underlying120 (by kernel_rfl) e6 rfl (by omega))
          · intro a1 w1 hG hF; obtain ⟨_, e60, rfl⟩ := hF.dp 16 60 (by kernel_rfl); exact s_is rfl (wants0 rfl) _ rfl (run_load1 Tryz.underlying119 e60 (Gr.cell ((Gr.drew wx).trans hG) q2))
          · intro a1 w1 hG hF; obtain ⟨_, e59, rfl⟩ := hF.dp 15 59 (by kernel_rfl); obtain ⟨_, e61, rfl⟩ := hF.dp 17 61 (by kernel_rfl); exact s_is rfl (wants0 rfl) _ rfl (run_and32 (a := b) (b := c) e59 e61)
          · intro a1 w1 hG hF; obtain ⟨_, e57, rfl⟩ := hF.dp 13 57 (by kernel_rfl); obtain ⟨_, e62, rfl⟩ := hF.dp 18 62 (by kernel_rfl); exact s_is rfl (wants0 rfl) _ rfl (run_xor32 (a := (a &&& b) ^^^ (a &&& c)) (b := b &&& c) e57 e62)
          · intro a1 w1 hG hF; obtain ⟨_, e46, rfl⟩ := hF.dp 2 46 (by kernel_rfl); obtain ⟨_, e63, rfl⟩ := hF.dp 19 63 (by kernel_rfl); exact s_is rfl (wants0 rfl) _ rfl (run_add32 (a := trn a 2 13 22) (b := ((a &&& b) ^^^ (a &&& c)) ^^^ (b &&& c)) e46 e63)
          · intro a1 w1 hG hF; exact s_same rfl (wants0 rfl) (.tmp 64) (.inl rfl) (hF.dp 20 64 (by kernel_rfl))
        · intro vs w1 hG hf; have z9 : vs 21 = .int .u32 (((trn a 2 13 22) + (((a &&& b) ^^^ (a &&& c)) ^^^ (b &&& c))).toNat : Int) := hf.2.2.2.2.2.2.2.2.2.2.2.2.2.2.2.2.2.2.2.2.2.1; clear hf; rw [← HY.out] at z9; simp only [putAll, Nat.zero_add, Nat.reduceAdd, z9]
          replace hM := hM.gr hB0 ((Gr.drew wx).trans hG)
          clear z9 q0 q1 q2 hG; generalize w1 = wy at hM ⊢; go_simp; go_wp2_with fail
          refine wp_region_cut (by kernel_rfl) [IsV (.slice (some ⟨g6, 1, none⟩) 7 7), IsV (.slice (some ⟨g6, 0, none⟩) 7 8)] 2 (by decide) (by kernel_rfl) (by kernel_rfl) (by kernel_rfl) ?_ ?_ ?_
          · intro φ hφ v w1 w2 h hg; simp only [List.mem_cons, List.not_mem_nil, or_false] at hφ; rcases hφ with rfl | rfl
            all_goals first | exact h | exact RdV.gr h hg
          · refine ⟨?_, ?_, trivial⟩
            · intro a1 w1 hG hF; have e6 : a1.eval (.tmp 6) = .pointer (some ⟨g6, 0, none⟩) := hF.ol 6 (by kernel_rfl); exact s_is rfl (wants0 rfl) _ rfl (by simp only [execOp, e6, show a1.eval (.const (.int .i64 1)) = .int .i64 1 from rfl, Option.map, Sem.run_bind, run_acut_l (P := Tryz.prog) Tryz.underlying120 (by kernel_rfl) g6 1 (by omega) 1 rfl, Result.andThen_ok, Sem.run_pure])
            · intro a1 w1 hG hF; have e6 : a1.eval (.tmp 6) = .pointer (some ⟨g6, 0, none⟩) := hF.ol 6 (by kernel_rfl); exact s_is rfl (wants0 rfl) _ rfl (by simp only [execOp, e6, show a1.eval (.const (.int .i64 7)) = .int .i64 7 from rfl, Option.map, Sem.run_bind, run_acut_h (P := Tryz.prog) Tryz.underlying120 (by kernel_rfl) g6 7 (by omega) 7 rfl, Result.andThen_ok, Sem.run_pure])
          · intro vs w1 hG hf; have z65 : vs 0 = .slice (some ⟨g6, 1, none⟩) 7 7 := hf.1; have z66 : vs 1 = .slice (some ⟨g6, 0, none⟩) 7 8 := hf.2.1; clear hf; simp only [List.take_succ_cons, List.take_zero, List.drop_succ_cons, List.drop_zero, putAll, Nat.zero_add, z65, z66]
            replace hM := hM.gr hB0 ((Gr.drew wy).trans hG)
            have hrd := (hM.at_ 0 rfl).rd 0 7 (by simp); refine wpList_copyA (hM.at_ 0 rfl) rfl (.tmp 65) (.tmp 66) 168 168 rfl 119 Tryz.underlying168 (by kernel_rfl) 1 7 7 (by kernel_rfl) (some ⟨g6, 0, none⟩) 7 8 (by kernel_rfl) (u32s [a, b, c, d, e, f, g]) hrd (u32s_oneCell _) (by omega) (by simp) ?_; intro w2 hA2 hb2 ho2; have hM2 := hM.put 0 rfl (cs' := u32s [a, a, b, c, d, e, f, g]) hA2 hb2 ho2; simp only [List.set] at hM2; have p0 : w2.cell? ⟨g6, 0, none⟩ = some (.int .u32 (a.toNat : Int)) := (hM2.at_ 0 rfl).cell (i := 0) rfl; have p4 : w2.cell? ⟨g6, 4, none⟩ = some (.int .u32 (d.toNat : Int)) := (hM2.at_ 0 rfl).cell (i := 4) rfl; have f0 := (hM2.at_ 0 rfl).frozen 0; have f4 := (hM2.at_ 0 rfl).frozen 4; have hM3 := (hM2.set 0 rfl 0 (.int .u32 ((x + y).toNat : Int))).set 0 rfl 4 (.int .u32 ((d + x).toNat : Int)); rw [u32s_set, u32s_set] at hM3; simp only [List.set] at hM3; rw [← HNX.out, ← add32_mod x y, ← add32_mod d x] at hM3; clear hM hrd hA2 hb2 ho2 hM2; unfold wpList; go_simp; go_wp2_with fail
            exact ⟨⟨r + 1, by omega, by go_num, hM3⟩, by simp [intOf]; omega⟩
    · obtain rfl : r = 64 := by omega
      have hEe := HVE.out 64 rfl; obtain ⟨v, hv⟩ : ∃ v, v = V 64 := ⟨_, rfl⟩; have hvl : v.length = 8 := by rw [hv]; exact HVL.out 64
      rw [← hv] at hM hEe; obtain ⟨D, hD⟩ : ∃ D : Nat → List UInt32, D = addAt h v := ⟨_, rfl⟩; have HDL : Hid (∀ r, (D r).length = 8) := by intro r; rw [hD, addAt_length, hh]
      have HDS : Hid (∀ r, (D r).set r ((D r).getD r 0 + v.getD r 0) = D (r + 1)) := by intro r; rw [hD]; rfl
      have HDE : Hid (∀ r, r = 8 → mixU h b = D r) := by intro r hr; rw [hr, hEe, hD, addAt_all hh hvl]
      have hD0 : u32s h = u32s (D 0) := by rw [hD]; rfl
      rw [hD0] at hM; clear hv hEe hD hD0 HVE HVS HVL hlt hr64; simp only [show ((64 : Nat) : Int) = 64 from rfl]; go_wp2_with fail
      go_loopw [78] (fun i wr => ∃ r : Nat, r ≤ 8 ∧ i = .int .i64 r ∧ Mem g2 w wr [(g6, 120, u32s v), (g5, 165, u32s S), (g4, 120, u32s (List.replicate 8 0)), (g2, 120, u32s (D r))]) (fun i _ => 8 - (intOf i).toNat)
      case atStart => exact ⟨0, by omega, rfl, hM⟩
      case round =>
        clear hM; obtain ⟨r, hr8, rfl, hM⟩ := hrel
        by_cases hlt : r < 8
        · obtain ⟨hx, hhx⟩ : ∃ x, x = (D r).getD r 0 := ⟨_, rfl⟩; obtain ⟨vx, hvx⟩ : ∃ x, x = v.getD r 0 := ⟨_, rfl⟩; have c2 := (hM.at_ 3 rfl).u32 (a := r) (by rw [HDL.out]; omega); have c6 := (hM.at_ 0 rfl).u32 (a := r) (by omega); rw [← hhx] at c2; rw [← hvx] at c6; have hDs := HDS.out r; rw [← hhx, ← hvx] at hDs; have HDs := Lib.hid hDs; clear hhx hvx hDs; go_wp2_with fail
          refine wp_region_st (by kernel_rfl) [IsV (.int .i64 ((r : Nat) : Int)), IsV (.pointer (some ⟨g2, r, none⟩)), IsV (.int .u32 ((hx).toNat : Int)), IsV (.int .i64 ((r : Nat) : Int)), IsV (.pointer (some ⟨g6, r, none⟩)), IsV (.int .u32 ((vx).toNat : Int)), IsV (.int .u32 ((hx + vx).toNat : Int)), IsV (.pointer (some ⟨g2, r, none⟩))] 8 _ rfl rfl rfl (by kernel_rfl) (by kernel_rfl) ?_ (⟨g2, r, none⟩ : Addr) (.int .u32 ((hx + vx).toNat : Int)) ?_ ?_ ?_
          · intro φ hφ; simp only [List.mem_cons, List.not_mem_nil, or_false] at hφ; rcases hφ with rfl | rfl | rfl | rfl | rfl | rfl | rfl | rfl <;> exact ⟨_, rfl⟩
          · refine ⟨?_, ?_, ?_, ?_, ?_, ?_, ?_, ?_, trivial⟩
            · intro a1 w1 hG hF; exact d_old rfl (wants0 rfl) (.tmp 10) (.inr rfl) (.int .i64 ((r : Nat) : Int)) (hF.ol 10 (by kernel_rfl)) rfl
            · intro a1 w1 hG hF; have e2 : a1.eval (.tmp 2) = .pointer (some ⟨g2, 0, none⟩) := hF.ol 2 (by kernel_rfl); obtain ⟨_, e81, rfl⟩ := hF.dp 0 81 (by kernel_rfl); exact d_is rfl (wants0 rfl) _ rfl (run_idx (i := r) Tryz.underlying120 (by kernel_rfl) e2 e81 (by omega))
            · intro a1 w1 hG hF; obtain ⟨_, e82, rfl⟩ := hF.dp 1 82 (by kernel_rfl); exact d_is rfl (wants0 rfl) _ rfl (run_load1 Tryz.underlying119 e82 ((hG.cell _).trans c2))
            · intro a1 w1 hG hF; exact d_old rfl (wants0 rfl) (.tmp 10) (.inr rfl) (.int .i64 ((r : Nat) : Int)) (hF.ol 10 (by kernel_rfl)) rfl
            · intro a1 w1 hG hF; have e6 : a1.eval (.tmp 6) = .pointer (some ⟨g6, 0, none⟩) := hF.ol 6 (by kernel_rfl); obtain ⟨_, e84, rfl⟩ := hF.dp 3 84 (by kernel_rfl); exact d_is rfl (wants0 rfl) _ rfl (run_idx (i := r) Tryz.underlying120 (by kernel_rfl) e6 e84 (by omega))
            · intro a1 w1 hG hF; obtain ⟨_, e85, rfl⟩ := hF.dp 4 85 (by kernel_rfl); exact d_is rfl (wants0 rfl) _ rfl (run_load1 Tryz.underlying119 e85 ((hG.cell _).trans c6))
            · intro a1 w1 hG hF; obtain ⟨_, e83, rfl⟩ := hF.dp 2 83 (by kernel_rfl); obtain ⟨_, e86, rfl⟩ := hF.dp 5 86 (by kernel_rfl); exact d_is rfl (wants0 rfl) _ rfl (run_add32 (a := hx) (b := vx) e83 e86)
            · intro a1 w1 hG hF; have e2 : a1.eval (.tmp 2) = .pointer (some ⟨g2, 0, none⟩) := hF.ol 2 (by kernel_rfl); obtain ⟨_, e81, rfl⟩ := hF.dp 0 81 (by kernel_rfl); exact d_is rfl (wants0 rfl) _ rfl (run_idx (i := r) Tryz.underlying120 (by kernel_rfl) e2 e81 (by omega))
          · intro a1 w1 hG hF; obtain ⟨_, e88, rfl⟩ := hF.dp 7 88 (by kernel_rfl); obtain ⟨_, e87, rfl⟩ := hF.dp 6 87 (by kernel_rfl); exact ⟨wants0 rfl, run_store1 (by kernel_rfl) e88 e87 (by rw [hG.cell]; exact (Option.isSome_iff_exists.2 ⟨_, c2⟩)) (by rw [hG.frozen]; exact (hM.at_ 3 rfl).frozen _)⟩
          intro vs k0 hf; clear hf; simp only [putAll, Nat.zero_add, Nat.reduceAdd]; have hM' := (hM.dr ⟨k0, rfl⟩).set 3 rfl r (.int .u32 ((hx + vx).toNat : Int)); rw [u32s_set, HDs.out] at hM'; simp only [List.set] at hM'; generalize ((World.drewN _ k0).setCell _ _) = W1 at hM' ⊢; clear hM c2 c6; go_simp; go_wp2_with fail
          go_roundw
          case rel => exact ⟨r + 1, by omega, by go_num, hM'⟩
          case measure => simp [intOf]; omega
        · obtain rfl : r = 8 := by omega
          have hGe := HDE.out 8 rfl; obtain ⟨q, hq⟩ : ∃ q, q = D 8 := ⟨_, rfl⟩; have hql : q.length = 8 := by rw [hq]; exact HDL.out 8
          rw [← hq] at hM hGe; have HGE2 := Lib.hid hGe; clear hq hGe HDE HDS HDL hlt hr8; simp only [show ((8 : Nat) : Int) = 8 from rfl]
          go_wp2_with first
            | (refine wpList_load_mid rfl 120 (.tmp 2) rfl g2 0 rfl (u32s q) _ (hM.at_ 3 rfl).range Tryz.underlying120 rfl (info8 _ hql) ?_)
            | (refine wpList_putM hM 2 rfl rfl 120 (.tmp 4) (.tmp 90) rfl (u32s q) rfl rfl (by simp [hql]) (info8 _ hql) (u32s_oneCell _) ?_; intro w7 hM7 _)
          simp only [List.set] at hM7; refine bodyPost_ret (results_cell_row rfl _ _ g4 _ _ _ _ rfl (hM7.at_ 2 rfl) Tryz.underlying120 rfl (by have := info8 _ hql; simpa using this)) rfl ?_; rw [HGE2.out]; exact ⟨rfl, by have := hM7.below; rw [HG.out] at this; exact this⟩
end Go.Proofs.YtjpphldojbfpfaaGreatDoor
namespace Go.Proofs.YtjpphldojbfpfaaGreatDoor
open Go.RowKit
def lenSl : Value → Nat
  | .slice _ n _ => n
  | _ => 0
theorem own_lenSl {w : World} {b : Nat} {e : TypeId} {size n : Nat} {v : Value} {xs : List Value} (h : w.ownsRow b e size v n xs) : lenSl v = n := by
  obtain ⟨A, c, rfl, _⟩ := own_form h; rfl
theorem own_range {w : World} {base : Nat} {e : TypeId} {n : Nat} {v : Value} {l : List UInt8} (h : w.ownsRow base e 1 v n (u8s l)) (hn : 0 < n) :
    ∃ g c, v = .slice (some ⟨g, 0, none⟩) n c ∧ n ≤ c ∧ base ≤ g ∧ g < w.heap.size ∧ w.rangeAt g 0 (u8s l) := by
  obtain ⟨g, c, rfl, hc, hb, hl, _⟩ := own_at h hn; exact ⟨g, c, rfl, hc, hb, hl, fun j v hv => by have := h.cells (g := g) rfl j v hv; rw [add_row] at this; exact this⟩
theorem infoU8_32 (l : List UInt8) (h : l.length = 32) : (Tryz.prog.info? 35).map (·.size) = some (u8s l).length := by simp only [u8s_length, h]; kernel_rfl
def markS (l : List UInt8) (k : Nat) : List UInt8 := l ++ [0x80] ++ List.replicate k 0
theorem markS_length (l : List UInt8) (k : Nat) : (markS l k).length = l.length + 1 + k := by simp [markS]; omega
theorem markS_succ (l : List UInt8) (k : Nat) : u8s (markS l (k + 1)) = u8s (markS l k) ++ [.int .u8 ((0 : UInt8).toNat : Int)] := by
  have e : markS l (k + 1) = markS l k ++ [0] := by simp only [markS, List.replicate_succ', List.append_assoc]
  rw [e, u8s_append]; rfl
set_option maxRecDepth 100000 in
set_option maxHeartbeats 8000000 in
theorem shaSum_any (A : Option Addr) (n c : Nat) (ps : List Part) (hn : n ≤ 1000000) (l : List UInt8) (hal : allP ps = l) (hl : l.length ≤ 1000000) (w : World) (h : Parts w A n ps) (gw : Glob w) :
    Calls Tryz.prog 19 #[.slice A n c] w fun e w' => e = .returned (.agg (u8s (shaL l)).toArray) ∧ Below w.heap.size w w' := by
  obtain ⟨i0, hi0, hz0, hz1, hz2⟩ := info_parts Tryz.info5; obtain ⟨m, hm⟩ : ∃ m, m = l.length := ⟨_, rfl⟩; have hcc := fun w h => concat_any A n c ps hn (by rw [hal]; exact hl) w h; rw [hal, ← hm] at hcc; have HCC := Lib.hid hcc; rw [← hm] at hl; have HM := Lib.hid hm; clear hcc hal hm
  go_enter Tryz.func19, Tryz.ntmps19
  go_wp2_with fail
  generalize hW : w.alloc _ = W; obtain ⟨g2, hg2⟩ : ∃ g, g = w.heap.size := ⟨_, rfl⟩
  have hM : Mem g2 w W [(g2, 35, u8s (List.replicate 32 0))] := by
    have h := ((Mem.nil w).new (t := 35) (C := (u8s (List.replicate 32 0)).toArray) (cs := u8s (List.replicate 32 0)) (Nat.le_refl _) (by simp)); rw [← hW, hg2]; exact h
  have hB0 : g2 ≤ w.heap.size := by omega
  simp only [← hg2]; have HG := Lib.hid hg2; have hGW : Gr w W := by have := hM.below; rw [HG.out] at this; exact this
  have hps := h.gr hGW; clear hW hg2 h
  go_wp2_with first
    | (go_at_call 42; refine (HCC.out _ hps).mono ?_; rintro e w1 ⟨v1, rfl, ho1, hB1⟩; obtain ⟨A1, c1, rfl, _, _⟩ := own_form ho1)
    | (at_builtin; go_must (refine wpList_app1 w1 rfl (.tmp 14) (.tmp 15) 43 rfl W.heap.size 5 i0 (.int .u8 0) 1 Tryz.underlying43 hi0 hz0 hz1 hz2 rfl (.slice A1 m c1) m _ rfl ho1 _ (.int .u8 ((128 : UInt8).toNat : Int)) rfl rfl rfl (by omega) (by unfold maxLen; omega) hB1.size ?_); intro v2 w2 hA2)
  have ho2 := hA2.own; have hG2 : Gr W w2 := Below.trans hB1 (hA2.below ho1 hB1.size); rw [show u8s l ++ [Value.int .u8 ((128 : UInt8).toNat : Int)] = u8s (markS l 0) by simp [markS, u8s]] at ho2; clear hA2 ho1 hB1; go_simp; obtain ⟨z, hz⟩ : ∃ z, z = (119 - m % 64) % 64 := ⟨_, rfl⟩; have hzl : z < 64 := by rw [hz]; exact Nat.mod_lt _ (by omega)
  have HZ : Hid (∀ k, k ≤ z → ((m + 1 + k) % 64 = 56 ↔ k = z)) := by intro k hk; omega
  have HZE := Lib.hid hz; clear hz
  go_loopw [3] (fun v wr => ∃ k : Nat, k ≤ z ∧ wr.ownsRow W.heap.size 5 1 v (m + 1 + k) (u8s (markS l k)) ∧ Gr W wr) (fun v _ => m + 1 + z - lenSl v)
  case atStart => exact ⟨0, by omega, ho2, hG2⟩
  case round =>
    clear ho2 hG2; obtain ⟨k, hk, hown, hG2⟩ := hrel; have hz1 := HZ.out k hk; obtain ⟨A3, c3, rfl, _, _⟩ := own_form hown; obtain ⟨q, hq⟩ : ∃ q, q = m + 1 + k := ⟨_, rfl⟩; rw [← hq] at hown hz1 ⊢; have hbs := hG2.size; have HQ := Lib.hid hq; have hql : q ≤ 1000100 := by omega
    by_cases hlt : k < z
    · have t1 : (((q : Int) % 64) == 56) = false := by rw [beq_eq_false_iff_ne]; omega
      have t2 : (((q : Int) % 64) != 56) = true := by rw [bne_iff_ne]; omega
      clear hz1 hq
      go_wp2_with (at_builtin; go_must (refine wpList_app1 wr rfl (.tmp 21) (.tmp 22) 43 rfl W.heap.size 5 i0 (.int .u8 0) 1 Tryz.underlying43 hi0 hz0 hz1 hz2 rfl (.slice A3 q c3) q _ rfl hown _ (.int .u8 ((0 : UInt8).toNat : Int)) rfl rfl rfl (by omega) (by unfold maxLen; omega) hbs ?_); intro v' w1 hA)
      have ho := hA.own; have hG3 : Gr W w1 := Below.trans hG2 (hA.below hown hbs); have hs1 := own_lenSl ho; rw [← markS_succ] at ho; clear hA hown hG2; go_simp; refine ⟨⟨k + 1, by omega, by rw [show m + 1 + (k + 1) = q + 1 by have := HQ.out; omega]; exact ho⟩, ?_⟩; show _ < m + 1 + z - q; have := HQ.out; omega
    · obtain rfl : k = z := by omega
      have t1 : (((q : Int) % 64) == 56) = true := by rw [beq_iff_eq]; omega
      have t2 : (((q : Int) % 64) != 56) = false := by rw [bne_eq_false_iff_eq]; omega
      have hpad : markS l k ++ (leBytes 8 (m * 8)).reverse = padS l := by rw [markS, padS, HZE.out, HM.out]
      have HPAD := Lib.hid hpad; clear hz1 hq hzl HZ hk hlt hpad; obtain ⟨A1', hA1'⟩ : ∃ A1' : Option Addr, A1' = A1 := ⟨_, rfl⟩; have hM1 := hM.gr hB0 hG2; have gW1 := gw.below (hGW.trans hG2); obtain ⟨N, hN1, hN2⟩ := padS_length l; obtain ⟨p, hp⟩ : ∃ p, p = padS l := ⟨_, rfl⟩; have hpad := HPAD.out; rw [← hp] at hpad hN1; rw [← HM.out] at hN2; have HP := Lib.hid hp; have HPAD2 := Lib.hid hpad; have hpl : p.length = 64 * N := hN1; have hNl : 64 * N ≤ 1000100 := by omega
      have hq8 : q + 8 = 64 * N := by
        rw [← hpl, ← hpad, List.length_append, markS_length]; have e1 := HQ.out; have e2 := HM.out; simp; omega
      have HQ8 := Lib.hid hq8; have HPL := Lib.hid hpl; clear hp hN1 hN2 hpl hq8 hA1' A1' hpad HPAD
      go_wp2_with first
        | (go_at_call 43; refine (putHigh_k (m * 8) 8 (by omega) (by omega) _).mono ?_; rintro e w3 ⟨v3, rfl, ho3, hB3⟩; obtain ⟨A4, c4, rfl, _, _⟩ := own_form ho3; have hr4 := Rd.of_own ho3; have hown3 := Gr.own hB3 hown; have hbs3 := hB3.size)
        | (at_builtin; go_must (refine wpList_app _ rfl (.tmp 24) (.tmp 27) 43 rfl W.heap.size 5 i0 (.int .u8 0) 1 Tryz.underlying43 hi0 hz0 hz1 hz2 rfl (.slice A3 q c3) q _ rfl hown3 A4 8 c4 _ rfl hr4 (u8s_oneCell _) (by omega) (by unfold maxLen; omega) (by omega) ?_; rintro v5 w5 hA5; have ho5 := hA5.own; rw [← u8s_append, HPAD2.out, HQ8.out] at ho5; have hG5 : Gr W w5 := Below.trans (Below.trans hG2 (Below.mono hB3 hbs)) (hA5.below hown3 (by omega)); clear hA5 hown3 hown ho3 hB3 hr4; replace hM1 := hM.gr hB0 hG5; replace gW1 := gw.below (hGW.trans hG5); obtain ⟨A5, c5, rfl, hc5, _⟩ := own_form ho5; have hr5 := Rd.of_own ho5))
        | (refine wpList_load_mid rfl 120 (.global 0) rfl 0 0 rfl (u32s startL) _ gW1.start Tryz.underlying120 rfl (info8 _ rfl) ?_)
        | (refine wpList_newM (Mem.nil w5) (Nat.le_refl _) rfl 120 (.tmp 5) (.tmp 29) rfl _ (u32s startL) rfl rfl rfl (by simp only [u32s_length]; rfl) (info8 startL rfl) (u32s_oneCell _) ?_; intro w6 hM6 _)
      go_simp; obtain ⟨g5, hg5⟩ : ∃ g, g = w5.heap.size := ⟨_, rfl⟩; rw [← hg5] at hM6; simp only [← hg5]; have hB5 : g5 ≤ w5.heap.size := by omega
      have HG5 := Lib.hid hg5; obtain ⟨H, hH⟩ : ∃ H : Nat → List UInt32, H = hashN p := ⟨_, rfl⟩; have HHL : Hid (∀ k, (H k).length = 8) := by intro k; rw [hH]; exact hashN_length p k
      have HHS : Hid (∀ k, mixU (H k) (blkS p k) = H (k + 1)) := by intro k; rw [hH]; rfl
      have HHE : Hid (∀ k, k = N → shaL l = outS (H k)) := by
        intro k hk; rw [hk, hH, shaL, ← HP.out, HPL.out, Nat.mul_div_cancel_left _ (by omega)]
      have hH0 : u32s startL = u32s (H 0) := by rw [hH]; rfl
      rw [hH0] at hM6; clear hg5 hH hH0 hM hG2 hps
      go_loopw [3] (fun v wr => ∃ (k : Nat) (A : Option Addr) (c : Nat), k ≤ N ∧ v = .slice A (64 * (N - k)) c ∧ 64 * (N - k) ≤ c ∧ Rd w5 A (64 * (N - k)) (u8s (p.drop (64 * k))) ∧ Mem g5 w5 wr [(g5, 120, u32s (H k))]) (fun v _ => lenSl v)
      case atStart => exact ⟨0, A5, c5, by omega, rfl, hc5, by simpa using hr5, hM6⟩
      case round =>
        clear hM6 hr5 hc5; obtain ⟨j, Aj, cj, hj, rfl, hcj, hrj, hM6⟩ := hrel; obtain ⟨n1, hn1⟩ : ∃ n1, n1 = 64 * (N - j) := ⟨_, rfl⟩; rw [← hn1] at hcj hrj ⊢; have hG6 : Gr w5 wr := by have := hM6.below; rw [HG5.out] at this; exact this
        have gwr := gW1.below hG6
        by_cases hlt : j < N
        · have hn64 : 64 ≤ n1 := by omega
          have hn0 : 0 < n1 := by omega
          have hnl : n1 ≤ 1000100 := by omega
          have hrb := (hG6.rd hrj).take (k := 64) hn64; rw [u8s_take] at hrb; obtain ⟨b, hb⟩ : ∃ b, b = blkS p j := ⟨_, rfl⟩; rw [show (p.drop (64 * j)).take 64 = b by rw [hb]; rfl] at hrb; have hrn := hrj.cutL (lo := 64) hn64 hcj; rw [u8s_drop, List.drop_drop, show 64 * j + 64 = 64 * (j + 1) by omega, show n1 - 64 = 64 * (N - (j + 1)) by omega] at hrn; have hcut1 := fun w1 => run_cut_h (P := Tryz.prog) Tryz.underlying43 (by kernel_rfl) (A := Aj) (n := n1) (c := cj) (hi := 64) (h := 64) rfl (by omega) w1; have hcut2 := fun w1 => run_cut_l (P := Tryz.prog) Tryz.underlying43 (by kernel_rfl) (A := Aj) (n := n1) (c := cj) (lo := 64) (l := 64) rfl hn64 w1; rw [show n1 - 64 = 64 * (N - (j + 1)) by omega] at hcut2; obtain ⟨h0, hh0⟩ : ∃ h, h = H j := ⟨_, rfl⟩; have hh0l : h0.length = 8 := by rw [hh0]; exact HHL.out j
          obtain ⟨h1, hh1⟩ : ∃ h, h = H (j + 1) := ⟨_, rfl⟩; have hh1l : h1.length = 8 := by rw [hh1]; exact HHL.out _
          have hmx := fun w hr gw => mix2_any h0 hh0l Aj cj b (by omega) w hr gw; have hst := HHS.out j; rw [← hh0, ← hb, ← hh1] at hst; rw [hst] at hmx; rw [← hh0] at hM6; have HMX := Lib.hid hmx; have HH1 := Lib.hid hh1; have HC1 := Lib.hid hcut1; have HN1 := Lib.hid hn1; clear hb hh0 hh1 hst hmx hcut1 hn1; go_wp2_with fail
          refine wp_region_cut (by kernel_rfl) [IsV (.agg (u32s h0).toArray), IsV (.slice Aj n1 cj), IsV (.slice Aj 64 cj), IsV (.agg (u32s h1).toArray)] 4 (by decide) (by kernel_rfl) (by kernel_rfl) (by kernel_rfl) ?_ ?_ ?_
          · intro φ hφ v w1 w2 h hg; simp only [List.mem_cons, List.not_mem_nil, or_false] at hφ; rcases hφ with rfl | rfl | rfl | rfl
            all_goals first | exact h | exact RdV.gr h hg
          · refine ⟨?_, ?_, ?_, ?_, trivial⟩
            · intro a1 w1 hG hF; have e5 : a1.eval (.tmp 5) = .pointer (some ⟨g5, 0, none⟩) := hF.ol 5 (by kernel_rfl); exact s_wp rfl (wants0 rfl) (wp_load_mid _ _ rfl g5 0 e5 (u32s h0) _ ((hM6.gr hB5 ((Gr.drew wr).trans hG)).at_ 0 rfl).range Tryz.underlying120 rfl (info8 h0 hh0l) ⟨_, rfl, rfl, Gr.refl _⟩)
            · intro a1 w1 hG hF; exact s_old rfl (wants0 rfl) (.tmp 3) (.inr rfl) (.slice Aj n1 cj) (hF.ol 3 (by kernel_rfl)) rfl
            · intro a1 w1 hG hF; obtain ⟨_, e36, rfl⟩ := hF.dp 1 36 (by kernel_rfl); exact s_is rfl (wants0 rfl) _ rfl (by simp only [execOp, e36, show a1.eval (.const (.int .i64 64)) = .int .i64 64 from rfl, Option.map, Sem.run_bind, HC1.out, Result.andThen_ok, Sem.run_pure])
            · intro a1 w1 hG hF; obtain ⟨_, e35, rfl⟩ := hF.dp 0 35 (by kernel_rfl); obtain ⟨_, e37, rfl⟩ := hF.dp 2 37 (by kernel_rfl); exact s_call rfl (wants0 rfl) _ rfl _ _ (by simp only [execOp, resolve, invoke, List.map_toArray, List.map_cons, List.map_nil, e35, e37]; go_simp) ((HMX.out w1 (((Gr.drew wr).trans hG).rd hrb) (gwr.below ((Gr.drew wr).trans hG))).mono fun e w2 ⟨he, hb⟩ => ⟨_, he, rfl, hb⟩)
          · intro vs w1 hG hf; have z38 : vs 3 = .agg (u32s h1).toArray := hf.2.2.2.1; clear hf; simp only [List.take_succ_cons, List.take_zero, List.drop_succ_cons, List.drop_zero, putAll, Nat.zero_add, Nat.reduceAdd, z38]; have hM7 := hM6.gr hB5 ((Gr.drew wr).trans hG); refine wpList_putM hM7 0 rfl rfl 120 (.tmp 5) (.tmp 38) rfl (u32s h1) (by kernel_rfl) (by kernel_rfl) (by simp [hh0l, hh1l]) (info8 _ hh1l) (u32s_oneCell _) ?_; intro w8 hM8 _; simp only [List.set] at hM8; rw [HH1.out] at hM8; clear hM6 hM7 hG gwr hrb HMX; unfold wpList; go_simp; go_wp2_with fail
            have hn1' := HN1.out; exact ⟨⟨j + 1, cutA Aj cj 64, cj - 64, by omega, rfl, by omega, hrn, hM8⟩, by show 64 * (N - (j + 1)) < n1; have := HN1.out; omega⟩
        · have hjN : j = N := by omega
          have hn0 : n1 = 0 := by omega
          subst hn0; obtain ⟨X, hX⟩ : ∃ X, X = H j := ⟨_, rfl⟩; have hXl : X.length = 8 := by rw [hX]; exact HHL.out j
          have hXe : shaL l = outS X := by rw [hX]; exact HHE.out j hjN
          rw [← hX] at hM6; have HXE := Lib.hid hXe; have hM9 := hM1.gr hB0 hG6; obtain ⟨Y, hY⟩ : ∃ Y : Nat → List UInt8, Y = fun r => outS (X.take r) := ⟨_, rfl⟩; have HY0 : Hid (Y 0 = []) := by show _ = _; rw [hY]; rfl
          have HY8 : Hid (∀ r, r = 8 → Y r = shaL l) := by intro r hr; rw [hr, hY, hXe]; simp only []; rw [List.take_of_length_le (by omega)]
          have HYS : Hid (∀ r x, X[r]? = some x → Y (r + 1) = Y r ++ (leBytes 4 x.toNat).reverse) := by
            intro r x hx; rw [hY]; simp only [outS]; rw [take_snoc_ X r x hx, List.flatMap_append]; simp
          have hlS : (shaL l).length = 32 := shaL_length l; obtain ⟨D, hD⟩ : ∃ D, D = shaL l := ⟨_, rfl⟩; rw [← hD] at hlS HY8; have HD := Lib.hid hD; clear hX hXe hY hD hjN hn1 hrj hcj HHS HHE HHL HXE; obtain ⟨w7, hw7⟩ : ∃ w7, w7 = wr := ⟨_, rfl⟩; subst hw7
          go_wp2_with (refine wpList_load_mid rfl 120 (.tmp 5) rfl g5 0 rfl (u32s X) _ (hM6.at_ 0 rfl).range Tryz.underlying120 rfl (info8 _ hXl) ?_)
          go_simp
          go_loopw [6, 40] (fun v i w' => ∃ r : Nat, r ≤ 8 ∧ i = .int .i64 r ∧ w'.ownsRow w7.heap.size 5 1 v (4 * r) (u8s (Y r)) ∧ Gr w7 w') (fun _ i _ => 8 - (intOf i).toNat)
          case atStart => exact ⟨0, by omega, rfl, by rw [HY0.out]; exact World.ownsRow_nil _ _ _ _, Gr.refl _⟩
          case round =>
            obtain ⟨r, hr8, rfl, hown, hG7⟩ := hrel; obtain ⟨A7, c7, rfl, hc7, _⟩ := own_form hown; obtain ⟨z, hz⟩ : ∃ z, z = 4 * r := ⟨_, rfl⟩; rw [← hz] at hown hc7 ⊢; have hzl : z ≤ 32 := by omega
            have hbs := hG7.size
            by_cases hlt : r < 8
            · obtain ⟨x, hx⟩ : ∃ x, X[r]? = some x := ⟨_, List.getElem?_eq_getElem (by omega)⟩; have hix := fun w => run_indexA (P := Tryz.prog) Tryz.underlying120 Tryz.underlying119 (by kernel_rfl) (C := u32s X) (i := r) (u32s_at hx) hlt w; have hYs := HYS.out r x hx; have HYs := Lib.hid hYs; have HZ2 := Lib.hid hz; have hxl := x.toNat_lt; clear hx hYs hz
              go_wp2_with first
                | (go_at_call 43; refine (putHigh_k x.toNat 4 (by omega) (by omega) _).mono ?_; rintro e w9 ⟨v9, rfl, ho9, hB9⟩; obtain ⟨A9, c9, rfl, _, _⟩ := own_form ho9; have hr9 := Rd.of_own ho9; have hown9 := Gr.own hB9 hown; have hbs9 := hB9.size)
                | (at_builtin; go_must (refine wpList_app _ rfl (.tmp 43) (.tmp 46) 43 rfl w7.heap.size 5 i0 (.int .u8 0) 1 Tryz.underlying43 hi0 hz0 hz1 hz2 rfl (.slice A7 z c7) z _ rfl hown9 A9 4 c9 _ rfl hr9 (u8s_oneCell _) (by omega) (by unfold maxLen; omega) (by omega) ?_; rintro v10 w10 hA10))
              have ho10 := hA10.own; have hG10 : Gr w7 w10 := Below.trans (Below.trans hG7 (Below.mono hB9 hbs)) (hA10.below hown9 (by omega)); rw [← u8s_append, ← HYs.out, HZ2.out, show 4 * r + 4 = 4 * (r + 1) by omega] at ho10; clear hA10 hown9 hown ho9 hB9 hr9 hix; go_simp; go_wp2_with fail
              go_roundw
              case rel => exact ⟨r + 1, by omega, by go_num, ho10⟩
              case measure => simp [intOf]; omega
            · obtain rfl : r = 8 := by omega
              obtain rfl : z = 32 := by omega
              rw [HY8.out 8 rfl] at hown; obtain ⟨go, co, hgo, _, _, _, hrg⟩ := own_range hown (by omega); injection hgo with hgo1 hgo2 hgo3
              subst hgo1 hgo3; have ha := fun w => run_arrAt (P := Tryz.prog) Tryz.underlying35 (A := some ⟨go, 0, none⟩) (c := c7) (Nat.le_refl 32) w; have hM10 := hM9.gr hB0 hG7; simp only [show ((8 : Nat) : Int) = 8 from rfl]
              go_wp2_with first
                | (refine wpList_load_mid rfl 35 (.tmp 50) rfl go 0 rfl (u8s D) _ hrg Tryz.underlying35 rfl (infoU8_32 _ hlS) ?_)
                | (refine wpList_putM hM10 0 rfl rfl 35 (.tmp 2) (.tmp 51) rfl (u8s D) rfl rfl (by simp [hlS]) (infoU8_32 _ hlS) (u8s_oneCell _) ?_; intro w11 hM11 _)
              simp only [List.set] at hM11; refine bodyPost_ret (results_cell_row rfl _ _ g2 _ _ _ _ rfl (hM11.at_ 0 rfl) Tryz.underlying35 rfl (by have := infoU8_32 _ hlS; simpa using this)) rfl ?_; exact ⟨by rw [HD.out], by have := hM11.below; rw [HG.out] at this; exact this⟩
end Go.Proofs.YtjpphldojbfpfaaGreatDoor
