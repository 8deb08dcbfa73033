/- The walks of bytes.Compare and of the order of names; slices.SortFunc at names. No condition. -/
import Derived.Test.YthpgldfjcancjaaDoorKitN
import Derived.Test.YthpgldfjcancjaaDoorKitM
import Derived.Test.YthpgldfjcancjaaDoorBlindPlain
import Derived.Lib.BytesEntry
import Derived.Test.YthpgldfjcancjaaDoorKitA
namespace Go.Proofs.YthpgldfjcancjaaDoor
open Go.RowKit
theorem run_loadRd {P : Program} {w : World} : ∀ (l : List UInt8) (a : Addr) (acc : ByteArray), (∀ j x, l[j]? = some x → w.cell? (a.add j) = some (.int .u8 (x.toNat : Int))) →
    (Extern.Bytes.loadBytes a l.length acc).run P w = .ok ⟨acc.data ++ l.toArray⟩ w := by
  intro l a acc h
  have h2 := Lib.run_loadBytesX (P := P) w (l.map fun b : UInt8 => (b.toNat : Int)) a acc (fun j x hj => by
    rw [List.getElem?_map, Option.map_eq_some_iff] at hj
    obtain ⟨b, hb, rfl⟩ := hj
    exact h j b hb)
  rw [List.length_map] at h2
  rw [h2]
  congr 2
  have : Lib.bytesOf (l.map fun b : UInt8 => (b.toNat : Int)) = l := by
    unfold Lib.bytesOf
    rw [List.map_map]
    conv => rhs; rw [← List.map_id l]
    refine List.map_congr_left fun b _ => ?_
    simp
  rw [this]
theorem run_compareRd {P : Program} {w : World} {a b : List UInt8} {A B : Addr} {n m c d : Nat} (ha : Rd w (some A) n (u8s a)) (hb : Rd w (some B) m (u8s b)) :
    (Extern.BytealgCompare.compare #[.slice (some A) n c, .slice (some B) m d]).run P w = .ok (.int .i64 (Lib.compareBytes a b)) w := by
  have hal : a.length = n := by have := ha.1; rwa [u8s_length] at this
  have hbl : b.length = m := by have := hb.1; rwa [u8s_length] at this
  have h1 := run_loadRd (P := P) (w := w) a A .empty (fun j x hj => by
    obtain ⟨ad, e, hc⟩ := ha.2 j _ (u8s_at hj)
    injection e with e
    subst e
    exact hc)
  have h2 := run_loadRd (P := P) (w := w) b B .empty (fun j x hj => by
    obtain ⟨ad, e, hc⟩ := hb.2 j _ (u8s_at hj)
    injection e with e
    subst e
    exact hc)
  rw [hal] at h1
  rw [hbl] at h2
  have he : ∀ l : List UInt8, (⟨ByteArray.empty.data ++ l.toArray⟩ : ByteArray) = ⟨l.toArray⟩ := fun l => by
    apply ByteArray.ext
    show (#[] : Array UInt8) ++ l.toArray = l.toArray
    simp
  rw [he] at h1 h2
  change Sem.run P (do pure (goInt (Extern.BytealgCompare.cmp (← Extern.Bytes.bytesOf (.slice (some A) n c)) (← Extern.Bytes.bytesOf (.slice (some B) m d))))) w = _
  simp only [Extern.Bytes.bytesOf, Sem.run_bind, Sem.run_pure, h1, h2, Result.andThen]
  rw [Lib.cmp_eq]
  rfl
set_option maxRecDepth 100000 in
set_option maxHeartbeats 4000000 in
theorem bcmp_any {a b : List UInt8} {A B : Addr} {n m c d : Nat} {w : World} (ha : Rd w (some A) n (u8s a)) (hb : Rd w (some B) m (u8s b)) :
    Calls Tryd.prog 31 #[.slice (some A) n c, .slice (some B) m d] w fun e w' => e = .returned (.int .i64 (Lib.compareBytes a b)) ∧ w = w' := by
  have hr := run_compareRd (P := Tryd.prog) (c := c) (d := d) ha hb
  go_enter Tryd.func31, Tryd.ntmps31
  go_wp2_with fail
  rw [run_callFunc_extern Tryd.func41 (by kernel_rfl) (by kernel_rfl) (by kernel_rfl) (e := Extern.BytealgCompare.compare) (by kernel_rfl), hr]
  simp only [Result.andThen]
  rw [Oper.upon_value]
  go_wp2_with fail
  go_ret
  exact ⟨rfl, rfl⟩
set_option maxRecDepth 100000 in
set_option maxHeartbeats 8000000 in
theorem order_any (a b : List UInt8) (hal : a.length = 32) (hbl : b.length = 32) (w : World) : Calls Tryd.prog 30 #[by32 a, by32 b] w fun e w' => e = .returned (.int .i64 (Lib.compareBytes a b)) ∧ GG w w' := by
  have h2 : Arr ((w.alloc (.cells (u8s a).toArray 51)).alloc (.cells (u8s b).toArray 51)) w.heap.size 51 (u8s a) := Arr.alloc (Arr.newAt rfl rfl) _
  have h3 : Arr ((w.alloc (.cells (u8s a).toArray 51)).alloc (.cells (u8s b).toArray 51)) (w.heap.size + 1) 51 (u8s b) := Arr.newAt (by simp only [asz]) rfl
  have gb : GG w ((w.alloc (.cells (u8s a).toArray 51)).alloc (.cells (u8s b).toArray 51)) := (GG.alloc _ _).trans (GG.alloc _ _)
  unfold by32
  go_enter Tryd.func30, Tryd.ntmps30
  go_upto_region 1 with fail
  change Code.wp _ _ _ _ ((w.alloc (.cells (u8s a).toArray 51)).alloc (.cells (u8s b).toArray 51))
  generalize (w.alloc (.cells (u8s a).toArray 51)).alloc (.cells (u8s b).toArray 51) = w0 at h2 h3 gb ⊢
  generalize w.heap.size + 1 = g3 at h3 ⊢
  generalize w.heap.size = g2 at h2 ⊢
  have r2 := h2.rdAll hal
  have r3 := h3.rdAll hbl
  refine wp_region_cutG GG GG.refl (fun _ _ _ => GG.trans) (by kernel_rfl) [IsV (.slice (some ⟨g2, 0, none⟩) 32 32), IsV (.slice (some ⟨g3, 0, none⟩) 32 32), IsV (.int .i64 (Lib.compareBytes a b))] 3 (by decide) (by kernel_rfl) (by kernel_rfl) (by kernel_rfl) ?_ ?_ ?_
  · intro φ hφ v w1 w2 h hg
    simp only [List.mem_cons, List.not_mem_nil, or_false] at hφ
    rcases hφ with rfl | rfl | rfl <;> exact h
  · refine ⟨?_, ?_, ?_, trivial⟩
    · intro a1 w1 hG hF
      have e2 : a1.eval (.tmp 2) = .pointer (some ⟨g2, 0, none⟩) := hF.ol 2 (by kernel_rfl)
      exact gg_val rfl rfl _ _ (by simp only [execOp, e2, Option.map, Sem.run_bind, run_cutAll (P := Tryd.prog) Tryd.underlying51 (by kernel_rfl), Result.andThen_ok, Sem.run_pure]) rfl (GG.refl _)
    · intro a1 w1 hG hF
      have e3 : a1.eval (.tmp 3) = .pointer (some ⟨g3, 0, none⟩) := hF.ol 3 (by kernel_rfl)
      exact gg_val rfl rfl _ _ (by simp only [execOp, e3, Option.map, Sem.run_bind, run_cutAll (P := Tryd.prog) Tryd.underlying51 (by kernel_rfl), Result.andThen_ok, Sem.run_pure]) rfl (GG.refl _)
    · intro a1 w1 hG hF
      have hG := GG.gr hG
      obtain ⟨_, e5, rfl⟩ := hF.dp 0 5 (by kernel_rfl)
      obtain ⟨_, e6, rfl⟩ := hF.dp 1 6 (by kernel_rfl)
      exact gg_call rfl rfl 31 #[.slice (some ⟨g2, 0, none⟩) 32 32, .slice (some ⟨g3, 0, none⟩) 32 32] (by simp only [execOp, resolve, invoke, List.map_toArray, List.map_cons, List.map_nil, e5, e6]; go_simp) _ (bcmp_any (((Gr.drew w0).trans hG).rd r2) (((Gr.drew w0).trans hG).rd r3)) rfl (GG.refl _)
  · intro vs w1 hG hf
    have y7 : vs 2 = .int .i64 (Lib.compareBytes a b) := hf.2.2.1
    clear hf
    simp only [List.take_succ_cons, List.take_zero, List.drop_succ_cons, List.drop_zero, putAll, Nat.zero_add, Nat.reduceAdd]
    have gF := (gb.trans (GG.drew _)).trans hG
    rw [y7]
    unfold wpList
    go_simp
    try refine .inl ?_
    try unfold wpList
    go_simp
    go_wp2_with fail
    go_ret
    exact ⟨rfl, gF⟩
end Go.Proofs.YthpgldfjcancjaaDoor
