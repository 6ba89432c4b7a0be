/- The law's inner page. -/
import Derived.Test.YtfhpgmgmofganaaNodeM
set_option linter.unusedVariables false
set_option linter.unusedSimpArgs false
set_option linter.unusedSectionVars false
namespace Go.Proofs.Ytfhpgmgmofganaa.NodeA
open Go.RowKit Go.WideShapes Go.Deep Go.Proofs.Ytfhpgmgmofganaa.Mem Go.Proofs.Ytfhpgmgmofganaa.Open Go.Proofs.Ytfhpgmgmofganaa.Kv
theorem PgO.below {w w' : World} {base : Nat} {kv vv nv : Value} {p : Pg} (h : PgO w base kv vv nv p) (hb : Below w.heap.size w w') : PgO w' base kv vv nv p := ⟨h.keys.below hb, h.vals.below hb, h.kids.below hb, h.lens, h.apart⟩
def kidsOf (n : Nat) (x : Int) : List Int := (List.range n).map fun (i : Nat) => x + (i : Int)
theorem kidsOf_snoc (n : Nat) (x : Int) : kidsOf (n + 1) x = kidsOf n x ++ [x + (n : Int)] := by unfold kidsOf; rw [List.range_succ, List.map_append]; rfl
/-- The law's inner page. -/
def innerP (keys : List S) (x : Int) : Pg := ⟨2, leafK keys, [], kidsOf ((leafK keys).length + 1) x⟩
set_option maxHeartbeats 1000000 in
set_option maxRecDepth 100000 in
theorem inner_any {v : Value} {keys : List S} (w : World) (h : Rd w w.heap.size 1 v keys.length (sc keys)) (hn : keys.length ≤ 20) (hsz : ∀ k ∈ keys, k.size < 9223372036854775807) (x : Int) (hx : 0 ≤ x ∧ x ≤ 100) :
    Calls Try.prog 10 #[v, .int .i64 x] w fun e w' => ∃ kv nv, e = .returned (pv 2 kv (.slice none 0 0) nv) ∧ PgO w' w.heap.size kv (.slice none 0 0) nv (innerP keys x) ∧ Below w.heap.size w w' := by
  have HL : Hid (∀ W, Below w.heap.size w W → Calls Try.prog 9 #[v] W fun e w' => ∃ kv vv, e = .returned (pv 1 kv vv (.slice none 0 0)) ∧ PgO w' W.heap.size kv vv (.slice none 0 0) (leafP keys) ∧ Below W.heap.size W w') := by
    intro W hb
    exact leaf_any W (h.up hb) hn hsz
  obtain ⟨_, A, c, rfl, _, _, _⟩ := h
  obtain ⟨hri, hle⟩ := leafK_rise _ keys rfl
  clear hsz
  unfold pv at *
  go_enter Try.func10, Try.ntmps10
  go_wp2_with fail
  refine (HL.out _ ((Below.refl _ _).alloc (Nat.le_refl _) _)).mono ?_
  rintro e W0 ⟨kv, vv, rfl, ho, hb⟩
  obtain ⟨Ak, ck, rfl, hck⟩ := ho.keys.slice_
  obtain ⟨Av, cv, rfl, hcv⟩ := ho.vals.slice_
  have hcl : (leafP keys).keys = leafK keys := rfl
  obtain ⟨ks, hks⟩ : ∃ ks, ks = leafK keys := ⟨_, rfl⟩
  rw [hcl, ← hks] at hck ⊢
  rw [← hks] at hle
  have HKS := Lib.hid hks
  have HO := Lib.hid ho
  have hb0 : Below w.heap.size w W0 := ((Below.refl _ w).alloc (Nat.le_refl _) _).trans (hb.mono (by simp))
  have hz0 : W0.heap[w.heap.size]? = some (.cells #[.int .i64 0, .slice none 0 0, .slice none 0 0, .slice none 0 0, .int .i64 0, .int .i64 0, .int .i64 0, .int .i64 0] 26 (0, 0)) := (hb.block w.heap.size (by simp)).trans (heap_alloc_new w _)
  have HB0 := Lib.hid hb0
  have HZ0 := Lib.hid hz0
  clear hb hb0 hz0 ho hks hcl hri
  go_wp2_with fail
  have hks20 : ks.length ≤ 20 := by omega
  have HX := Lib.hid hx
  have hs0 := HB0.out.size
  have hwb : w.heap.size < W0.heap.size := (Array.getElem?_eq_some_iff.1 HZ0.out).1
  go_loopw [6] (fun a wr => ∃ (i : Nat) (nv : Value), i ≤ ks.length + 1 ∧ a = .int .i64 i ∧ Own wr (W0.heap.size + 1) 3 1 nv i (ic (kidsOf i x)) ∧ wr.heap[W0.heap.size]? = some (.cells #[.int .i64 2, .slice Ak ks.length ck, .slice none 0 0, nv, .int .i64 0, .int .i64 0, .int .i64 0, .int .i64 0] 26 (0, 0)) ∧ Below W0.heap.size W0 wr) (fun a _ => ks.length + 1 - (intOf a).toNat)
  case atStart => exact ⟨0, .slice none 0 0, Nat.zero_le _, rfl, Own.nil_ _ _ _ _, heap_alloc_new W0 _, (Below.refl _ _).alloc (Nat.le_refl _) _⟩
  case round =>
    obtain ⟨i, nv, hi, rfl, hon, hr1, hbl⟩ := hrel
    obtain ⟨An, cn, rfl, hcn⟩ := hon.slice_
    obtain ⟨f0, f1, f2, f3, f4, f5, f6, f7, f8⟩ := row8_facts hr1
    have HON := Lib.hid hon
    have HR1 := Lib.hid hr1
    have HBL := Lib.hid hbl
    clear hon hr1 hbl
    by_cases hlt : i ≤ ks.length
    · have i0 : (i : Int) ≤ (ks.length : Int) := by omega
      have ew : IntKind.i64.wrap (x + (i : Int)) = x + (i : Int) := by rw [IntKind.wrap_i64]; have := HX.out; omega
      have hwb1 : W0.heap.size < wr.heap.size := (Array.getElem?_eq_some_iff.1 HR1.out).1
      have hrun := app_gen (W := wr.alloc (.cells #[.int .i64 (x + (i : Int))] 3)) 24 24 Try.underlying24 SlI.ty (by decide) (HON.out.alloc _) (by simp; omega) (A := some ⟨wr.heap.size, 0, none⟩) (m := 1) (c := 1) (ys := ic [x + (i : Int)]) rfl (ic_one _) (fun _ => ⟨_, 0, rfl, fun jj u hu => by rw [Nat.zero_add, cell_of_row _ _ _ _ _ _ (heap_alloc_new wr _)]; simpa [ic] using hu⟩) (by omega)
      have HRUN := Lib.hid hrun
      have HW9 : Hid (∀ W, Fr (fun g => (Value.slice An i cn).ownBlock = some g) (wr.alloc (.cells #[.int .i64 (x + (i : Int))] 3)) W → W.heap[W0.heap.size]? = some (.cells #[.int .i64 2, .slice Ak ks.length ck, .slice none 0 0, .slice An i cn, .int .i64 0, .int .i64 0, .int .i64 0, .int .i64 0] 26 (0, 0))) := fun W hf =>
        hf.blk ((Below.heap_alloc _ _ _ hwb1).trans HR1.out) (fun e => by have := (HON.out.lt _ e).1; omega)
      clear hrun
      go_wp2_with (at_builtin; refine wpL_append rfl _ _ 24 24 rfl rfl rfl HRUN.out ?_; rintro v1 W1 ⟨⟨A1, c1, rfl⟩, ho1, hf1, hb1⟩; have HO1 := Lib.hid ho1; have HF1 := Lib.hid hf1; have HB1 := Lib.hid hb1; clear ho1 hf1 hb1 f0 f1 f2 f3 f4 f5 f6 f7 f8; obtain ⟨f0, f1, f2, f3, f4, f5, f6, f7, f8⟩ := row8_facts (HW9.out _ HF1.out))
      go_roundw
      case rel =>
        refine ⟨i + 1, _, by omega, by go_num, ?_, by have h9 := heap_setCell_same W1 W0.heap.size 3 _ _ (.slice A1 (i + 1) c1) (HW9.out _ HF1.out); simpa using h9, ?_⟩
        · have hic : ic (kidsOf i x) ++ ic [x + (i : Int)] = ic (kidsOf (i + 1) x) := by
            rw [kidsOf_snoc]; simp [ic]
          rw [← hic]
          exact HO1.out.kept fun g hg => Below.heap_setCell _ _ _ _ (by have := (HO1.out.lt g hg).1; show g ≠ W0.heap.size; omega)
        · refine below_set ?_ (Nat.le_refl _) _
          exact (HBL.out.alloc HBL.out.size _).trans (HF1.out.below (by have := HBL.out.size; simp; omega) fun g _ hg => by have := (HON.out.lt g hg).1; omega)
      case measure => simp [intOf]; omega
    · obtain rfl : i = ks.length + 1 := by omega
      have i0 : ¬ (((ks.length + 1 : Nat) : Int) ≤ (ks.length : Int)) := by omega
      obtain ⟨z0, z1, z2, z3, z4, z5, z6, z7, z8⟩ := row8_facts ((HBL.out.block _ hwb).trans HZ0.out)
      go_wp2_with fail
      clear f0 f1 f2 f3 f4 f5 f6 f7 f8 z0 z1 z2 z3 z4 z5 z6 z7 z8
      refine bodyPost_ret (results_cell_row rfl _ _ w.heap.size 26 _ (0, 0) _ rfl (row8_set ((HBL.out.block _ hwb).trans HZ0.out) _ _ _ _ _ _ _ _) Try.underlying26 rfl rfl) rfl ?_
      have hne : ∀ g u0 u1 u2 u3 u4 u5 u6 u7, w.heap.size + 1 ≤ g → ((((((((wr.setCell ⟨w.heap.size, 0, none⟩ u0).setCell ⟨w.heap.size, 1, none⟩ u1).setCell ⟨w.heap.size, 2, none⟩ u2).setCell ⟨w.heap.size, 3, none⟩ u3).setCell ⟨w.heap.size, 4, none⟩ u4).setCell ⟨w.heap.size, 5, none⟩ u5).setCell ⟨w.heap.size, 6, none⟩ u6).setCell ⟨w.heap.size, 7, none⟩ u7).heap[g]? = wr.heap[g]? := fun g u0 u1 u2 u3 u4 u5 u6 u7 hg => by
        have n1 : g ≠ w.heap.size := by omega
        refine Eq.trans (Below.heap_setCell _ _ _ _ n1) (Eq.trans (Below.heap_setCell _ _ _ _ n1) (Eq.trans (Below.heap_setCell _ _ _ _ n1) (Eq.trans (Below.heap_setCell _ _ _ _ n1) ?_)))
        exact Eq.trans (Below.heap_setCell _ _ _ _ n1) (Eq.trans (Below.heap_setCell _ _ _ _ n1) (Eq.trans (Below.heap_setCell _ _ _ _ n1) (Below.heap_setCell _ _ _ _ n1)))
      have hok := HO.out.keys
      have hcl : (leafP keys).keys = ks := HKS.out.symm
      rw [hcl] at hok
      have hkl : (innerP keys x).keys = ks := HKS.out.symm
      have hkd : (innerP keys x).kids = kidsOf (ks.length + 1) x := by rw [HKS.out]; rfl
      have hlk : (kidsOf (ks.length + 1) x).length = ks.length + 1 := by simp [kidsOf]
      have hlt1 : ∀ g, (Value.slice Ak ks.length ck).ownBlock = some g → w.heap.size + 1 ≤ g := fun g hg => by have := (hok.lt g hg).1; simpa using this
      refine ⟨_, _, rfl, ⟨?_, Own.nil_ _ _ _ _, ?_, ?_, fun g _ h => by simp [Value.ownBlock] at h⟩, ?_⟩
      · rw [hkl]
        exact ((hok.below HBL.out).base_ (base' := w.heap.size) fun g hg => by have := hlt1 g hg; omega).kept fun g hg => hne _ _ _ _ _ _ _ _ _ (hlt1 g hg)
      · rw [hkd, hlk]
        exact (HON.out.base_ (base' := w.heap.size) fun g hg => by have := (HON.out.lt g hg).1; omega).kept fun g hg => hne _ _ _ _ _ _ _ _ _ (by have := (HON.out.lt g hg).1; omega)
      · rw [hkl, hkd, hlk]; exact ⟨by omega, by simp [innerP], by omega⟩
      · have hB : Below w.heap.size w wr := HB0.out.trans (HBL.out.mono hs0)
        refine below_set (below_set (below_set (below_set ?_ (Nat.le_refl _) _) (Nat.le_refl _) _) (Nat.le_refl _) _) (Nat.le_refl _) _
        exact below_set (below_set (below_set (below_set hB (Nat.le_refl _) _) (Nat.le_refl _) _) (Nat.le_refl _) _) (Nat.le_refl _) _
#print axioms inner_any
end Go.Proofs.Ytfhpgmgmofganaa.NodeA
