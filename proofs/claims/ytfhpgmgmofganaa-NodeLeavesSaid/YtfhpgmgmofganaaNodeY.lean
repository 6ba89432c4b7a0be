/- Put, Drop: a leaf with something under a key, or without it. -/
import Derived.Test.YtfhpgmgmofganaaNodeR
import Derived.Test.YtfhpgmgmofganaaSlT
set_option linter.unusedVariables false
set_option linter.unusedSimpArgs false
set_option linter.unusedSectionVars false
namespace Go.Proofs.Ytfhpgmgmofganaa.NodeA
open Go.RowKit Go.WideShapes Go.Deep Go.Proofs.Ytfhpgmgmofganaa.Mem Go.Proofs.Ytfhpgmgmofganaa.Open Go.Proofs.Ytfhpgmgmofganaa.Kv
set_option maxHeartbeats 2000000 in
set_option maxRecDepth 100000 in
theorem put_there {kv vv nv : Value} {ks vs : List S} {ns : List Int} (w : World) (h : PgR w kv vv nv ⟨1, ks, vs, ns⟩) (hr : Rise (kp ks)) (hv : vs.length = ks.length) (hl : ks.length ≤ 50) (k v : S) (hh : here (kp ks) k = true) :
    Calls Try.prog 19 #[pv 1 kv vv nv, .string k, .string v] w fun e w' => ∃ kv' vv' nv', e = .returned (pv 1 kv' vv' nv') ∧ PgO w' w.heap.size kv' vv' nv' ⟨1, ks, vs.set (pos (kp ks) k) v, ns⟩ ∧ Below w.heap.size w w' := by
  obtain ⟨Ak, ck, Av, cv, An, cn, rfl, rfl, rfl⟩ := h.forms
  have hml := pos_le (kp ks) k
  rw [kp_len] at hml
  obtain ⟨m, hm⟩ : ∃ m, m = pos (kp ks) k := ⟨_, rfl⟩
  rw [← hm] at hml
  have HAT : Hid (∀ X, Below w.heap.size w X → Calls Try.prog 17 #[.agg #[.int .i64 1, .slice Ak ks.length ck, .slice Av vs.length cv, .slice An ns.length cn, .int .i64 0, .int .i64 0, .int .i64 0, .int .i64 0], .string k] X fun e w' => e = .returned (.tuple #[.int .i64 m, .bool true]) ∧ Below X.heap.size X w') := fun X hb => (at_any X (h.up hb) hr k).mono fun e w' he => ⟨he.1.trans (by
    have e1 : atZ ⟨1, ks, vs, ns⟩ k = m := by unfold atZ; rw [if_neg (fun h => absurd (show (1 : Int) = 2 from h.1) (by decide)), hm]
    rw [e1]
    show _ = _
    rw [hh]), he.2⟩
  have HC : Hid (∀ X, Below w.heap.size w X → Calls Try.prog 11 #[.agg #[.int .i64 1, .slice Ak ks.length ck, .slice Av vs.length cv, .slice An ns.length cn, .int .i64 0, .int .i64 0, .int .i64 0, .int .i64 0]] X fun e w' => ∃ K1 kc V1 vc N1 nc, e = .returned (.agg #[.int .i64 1, .slice K1 ks.length kc, .slice V1 vs.length vc, .slice N1 ns.length nc, .int .i64 0, .int .i64 0, .int .i64 0, .int .i64 0]) ∧ PgO w' X.heap.size (.slice K1 ks.length kc) (.slice V1 vs.length vc) (.slice N1 ns.length nc) ⟨1, ks, vs, ns⟩ ∧ Below X.heap.size X w') := fun X hb => (clone_any X (h.up hb)).mono fun e w' he => by
    obtain ⟨kv', vv', nv', e1, ho, hb'⟩ := he
    obtain ⟨K1, kc, V1, vc, N1, nc, q1, q2, q3⟩ := ho.rd.forms
    subst q1 q2 q3
    exact ⟨_, _, _, _, _, _, e1, ho, hb'⟩
  have HLEN := Lib.hid h.lens
  have HR := Lib.hid hr
  have HH := Lib.hid hh
  have HM := Lib.hid hm
  have HV := Lib.hid hv
  clear h hr hh hm hv
  unfold pv at *
  dsimp only at *
  go_enter Try.func19, Try.ntmps19
  go_wp2_with fail
  obtain ⟨W0, hW0⟩ : ∃ W0, W0 = (w.alloc (.cells #[.int .i64 1, .slice Ak ks.length ck, .slice Av vs.length cv, .slice An ns.length cn, .int .i64 0, .int .i64 0, .int .i64 0, .int .i64 0] 26)).alloc (.cells #[.int .i64 0, .slice none 0 0, .slice none 0 0, .slice none 0 0, .int .i64 0, .int .i64 0, .int .i64 0, .int .i64 0] 26) := ⟨_, rfl⟩
  rw [← hW0]
  have HSz : Hid (W0.heap.size = w.heap.size + 2) := Lib.hid (by rw [hW0]; simp)
  have HBw : Hid (Below w.heap.size w W0) := by rw [hW0]; exact ((Below.refl _ w).alloc (Nat.le_refl _) _).alloc (by simp) _
  have HS3 : Hid (∀ X, Below W0.heap.size W0 X → X.heap[w.heap.size]? = some (.cells #[.int .i64 1, .slice Ak ks.length ck, .slice Av vs.length cv, .slice An ns.length cn, .int .i64 0, .int .i64 0, .int .i64 0, .int .i64 0] 26 (0, 0))) := fun X hb => (hb.block _ (by rw [HSz.out]; omega)).trans (by rw [hW0, Below.heap_alloc _ _ _ (by simp)]; exact heap_alloc_new w _)
  have HS6 : Hid (∀ X, Below W0.heap.size W0 X → X.heap[w.heap.size + 1]? = some (.cells #[.int .i64 0, .slice none 0 0, .slice none 0 0, .slice none 0 0, .int .i64 0, .int .i64 0, .int .i64 0, .int .i64 0] 26 (0, 0))) := fun X hb => (hb.block _ (by rw [HSz.out]; omega)).trans (by
    rw [hW0]
    have h9 := heap_alloc_new (w.alloc (.cells #[.int .i64 1, .slice Ak ks.length ck, .slice Av vs.length cv, .slice An ns.length cn, .int .i64 0, .int .i64 0, .int .i64 0, .int .i64 0] 26)) (.cells #[.int .i64 0, .slice none 0 0, .slice none 0 0, .slice none 0 0, .int .i64 0, .int .i64 0, .int .i64 0, .int .i64 0] 26)
    rw [World.size_alloc] at h9
    exact h9)
  clear hW0
  refine (HAT.out W0 HBw.out).mono ?_
  rintro e W1 ⟨rfl, hb⟩
  have HB1 := Lib.hid hb
  clear hb
  obtain ⟨f0, f1, f2, f3, f4, f5, f6, f7, f8⟩ := row8_facts (HS3.out W1 HB1.out)
  go_wp2_with fail
  refine (HC.out W1 (HBw.out.trans (HB1.out.mono HBw.out.size))).mono ?_
  rintro e W2 ⟨K1, kc, V1, vc, N1, nc, rfl, ho, hb⟩
  have HO := Lib.hid (ho.base_ HB1.out.size)
  have HB2 := Lib.hid (HB1.out.trans (hb.mono HB1.out.size))
  clear ho hb
  clear f0 f1 f2 f3 f4 f5 f6 f7 f8
  obtain ⟨f0, f1, f2, f3, f4, f5, f6, f7, f8⟩ := row8_facts (HS3.out W2 HB2.out)
  have hmk : m < ks.length := by
    have h9 := here_pos_lt HR.out HH.out
    rw [kp_len, ← HM.out] at h9
    exact h9
  have i0 : (0 : Int) ≤ (m : Int) := by omega
  have i1 : (m : Int) < (vs.length : Int) := by have := HV.out; omega
  have i2 : m < vs.length := by have := HV.out; omega
  obtain ⟨gv, ov, rfl, c1, hgv, hgv2⟩ := own_some HO.out.vals (show 0 < vs.length by omega)
  go_upto_region 4 with fail
  clear f0 f1 f2 f3 f4 f5 f6 f7 f8
  obtain ⟨X, hX⟩ : ∃ X, X = ((((((((W2.setCell ⟨w.heap.size, 0, none⟩ (.int .i64 1)).setCell ⟨w.heap.size, 1, none⟩ (.slice K1 ks.length kc)).setCell ⟨w.heap.size, 2, none⟩ (.slice (some ⟨gv, ov, none⟩) vs.length vc)).setCell ⟨w.heap.size, 3, none⟩ (.slice N1 ns.length nc)).setCell ⟨w.heap.size, 4, none⟩ (.int .i64 0)).setCell ⟨w.heap.size, 5, none⟩ (.int .i64 0)).setCell ⟨w.heap.size, 6, none⟩ (.int .i64 0)).setCell ⟨w.heap.size, 7, none⟩ (.int .i64 0)) := ⟨_, rfl⟩
  rw [← hX]
  have HX3 : Hid (X.heap[w.heap.size]? = some (.cells #[.int .i64 1, .slice K1 ks.length kc, .slice (some ⟨gv, ov, none⟩) vs.length vc, .slice N1 ns.length nc, .int .i64 0, .int .i64 0, .int .i64 0, .int .i64 0] 26 (0, 0))) := by rw [hX]; exact row8_set (HS3.out W2 HB2.out) _ _ _ _ _ _ _ _
  have HKX : Hid (∀ g, g ≠ w.heap.size → X.heap[g]? = W2.heap[g]?) := fun g hg => by rw [hX]; exact set8_ne _ hg _ _ _ _ _ _ _ _
  have HX6 : Hid (X.heap[w.heap.size + 1]? = some (.cells #[.int .i64 0, .slice none 0 0, .slice none 0 0, .slice none 0 0, .int .i64 0, .int .i64 0, .int .i64 0, .int .i64 0] 26 (0, 0))) := Lib.hid ((HKX.out _ (by omega)).trans (HS6.out W2 HB2.out))
  have HXO : Hid (PgO X W0.heap.size (.slice K1 ks.length kc) (.slice (some ⟨gv, ov, none⟩) vs.length vc) (.slice N1 ns.length nc) ⟨1, ks, vs, ns⟩) := Lib.hid (HO.out.kept fun g hg => HKX.out g (by have := HSz.out; omega))
  have HXL : Hid (Below w.heap.size w X) := by rw [hX]; exact set8_below (HBw.out.trans (HB2.out.mono (by have := HSz.out; omega))) (Nat.le_refl _) _ _ _ _ _ _ _ _
  have HXS : Hid (W0.heap.size ≤ X.heap.size) := by rw [hX]; exact Lib.hid (by have := HB2.out.size; simpa [World.setCell] using this)
  clear hX
  obtain ⟨f0, f1, f2, f3, f4, f5, f6, f7, f8⟩ := row8_facts (HX3.out)
  have hgne : gv ≠ w.heap.size := by have := HSz.out; omega
  have hfz : ∀ j, X.frozen? ⟨gv, j, none⟩ = false := fun j => HXO.out.vals.frozen rfl j
  obtain ⟨u9, hu9⟩ : ∃ u, X.cell? ⟨gv, ov + m, none⟩ = some u := by
    obtain ⟨g', o', c', e, _, _, _, hx⟩ := HXO.out.vals.rd.cells (show 0 < vs.length by omega)
    injection e with e1 _ _
    injection e1 with e1
    injection e1 with e1 e2
    subst e1 e2
    exact ⟨_, hx m (.string vs[m]) (sc_at (List.getElem?_eq_getElem _))⟩
  go_upto_region 5 with fail
  clear hfz hu9
  clear f0 f1 f2 f3 f4 f5 f6 f7 f8
  obtain ⟨Y, hY⟩ : ∃ Y, Y = X.setCell ⟨gv, ov + m, none⟩ (.string v) := ⟨_, rfl⟩
  rw [← hY]
  have HKY : Hid (∀ g, g ≠ gv → Y.heap[g]? = X.heap[g]?) := fun g hg => by rw [hY]; exact Below.heap_setCell _ _ _ _ hg
  have HY3 : Hid (Y.heap[w.heap.size]? = some (.cells #[.int .i64 1, .slice K1 ks.length kc, .slice (some ⟨gv, ov, none⟩) vs.length vc, .slice N1 ns.length nc, .int .i64 0, .int .i64 0, .int .i64 0, .int .i64 0] 26 (0, 0))) := Lib.hid ((HKY.out _ (Ne.symm hgne)).trans HX3.out)
  have HY6 : Hid (Y.heap[w.heap.size + 1]? = some (.cells #[.int .i64 0, .slice none 0 0, .slice none 0 0, .slice none 0 0, .int .i64 0, .int .i64 0, .int .i64 0, .int .i64 0] 26 (0, 0))) := Lib.hid ((HKY.out _ (by have := HSz.out; omega)).trans HX6.out)
  have HYV : Hid (Own Y W0.heap.size 9 1 (.slice (some ⟨gv, ov, none⟩) vs.length vc) vs.length (sc (vs.set m v))) := by
    rw [hY]
    have h9 := HXO.out.vals.set m (.string v)
    have e9 : (sc vs).set m (.string v) = sc (vs.set m v) := by simp [sc, List.map_set]
    rw [e9] at h9
    exact h9
  have HYK : Hid (Own Y W0.heap.size 9 1 (.slice K1 ks.length kc) ks.length (sc ks)) := Lib.hid (HXO.out.keys.kept fun g hg => HKY.out g fun e => HXO.out.apart g hg (by rw [e]; rfl))
  have HYN : Hid (Own Y W0.heap.size 3 1 (.slice N1 ns.length nc) ns.length (ic ns)) := Lib.hid (HXO.out.kids.kept fun g hg => HKY.out g fun e => own_apart HXO.out.vals HXO.out.kids (by decide) g (by rw [e]; rfl) hg)
  have HYL : Hid (Below w.heap.size w Y) := by rw [hY]; exact below_set HXL.out (by have := HSz.out; omega) _
  clear hY
  obtain ⟨f0, f1, f2, f3, f4, f5, f6, f7, f8⟩ := row8_facts (HY3.out)
  obtain ⟨z0, z1, z2, z3, z4, z5, z6, z7, z8⟩ := row8_facts (HY6.out)
  go_wp2_with fail
  clear f0 f1 f2 f3 f4 f5 f6 f7 f8 z0 z1 z2 z3 z4 z5 z6 z7 z8
  refine bodyPost_ret (results_cell_row rfl _ _ (w.heap.size + 1) 26 _ (0, 0) _ rfl (row8_set HY6.out _ _ _ _ _ _ _ _) Try.underlying26 rfl rfl) rfl ?_
  have hfin : ∀ g, W0.heap.size ≤ g → (((((((((Y.setCell ⟨(w.heap.size + 1), 0, none⟩ (.int .i64 1)).setCell ⟨(w.heap.size + 1), 1, none⟩ (.slice K1 ks.length kc)).setCell ⟨(w.heap.size + 1), 2, none⟩ (.slice (some ⟨gv, ov, none⟩) vs.length vc)).setCell ⟨(w.heap.size + 1), 3, none⟩ (.slice N1 ns.length nc)).setCell ⟨(w.heap.size + 1), 4, none⟩ (.int .i64 0)).setCell ⟨(w.heap.size + 1), 5, none⟩ (.int .i64 0)).setCell ⟨(w.heap.size + 1), 6, none⟩ (.int .i64 0)).setCell ⟨(w.heap.size + 1), 7, none⟩ (.int .i64 0))).heap[g]? = Y.heap[g]? := fun g hg => set8_ne _ (by have := HSz.out; omega) _ _ _ _ _ _ _ _
  have hsz := HSz.out
  obtain ⟨l1, l2, l3⟩ := HLEN.out
  refine ⟨_, _, _, rfl, ⟨?_, ?_, ?_, ?_, ?_⟩, set8_below HYL.out (Nat.le_succ _) _ _ _ _ _ _ _ _⟩
  · exact (HYK.out.base_ (base' := w.heap.size) fun g hg => by have := (HYK.out.lt g hg).1; omega).kept fun g hg => hfin g (HYK.out.lt g hg).1
  · rw [← HM.out]
    show Own _ _ _ _ _ (vs.set m v).length (sc (vs.set m v))
    rw [List.length_set]
    exact (HYV.out.base_ (base' := w.heap.size) fun g hg => by have := (HYV.out.lt g hg).1; omega).kept fun g hg => hfin g (HYV.out.lt g hg).1
  · exact (HYN.out.base_ (base' := w.heap.size) fun g hg => by have := (HYN.out.lt g hg).1; omega).kept fun g hg => hfin g (HYN.out.lt g hg).1
  · show ks.length ≤ 100 ∧ (vs.set _ v).length ≤ 100 ∧ _
    rw [List.length_set]; exact ⟨l1, l2, l3⟩
  · exact HXO.out.apart
set_option maxHeartbeats 2000000 in
set_option maxRecDepth 100000 in
theorem put_new {kv vv nv : Value} {ks vs : List S} {ns : List Int} (w : World) (h : PgR w kv vv nv ⟨1, ks, vs, ns⟩) (hr : Rise (kp ks)) (hv : vs.length = ks.length) (hl : ks.length ≤ 50) (k v : S) (hh : here (kp ks) k = false) :
    Calls Try.prog 19 #[pv 1 kv vv nv, .string k, .string v] w fun e w' => ∃ kv' vv' nv', e = .returned (pv 1 kv' vv' nv') ∧ PgO w' w.heap.size kv' vv' nv' ⟨1, ks.take (pos (kp ks) k) ++ k :: ks.drop (pos (kp ks) k), vs.take (pos (kp ks) k) ++ v :: vs.drop (pos (kp ks) k), ns⟩ ∧ Below w.heap.size w w' := by
  obtain ⟨Ak, ck, Av, cv, An, cn, rfl, rfl, rfl⟩ := h.forms
  have hml := pos_le (kp ks) k
  rw [kp_len] at hml
  obtain ⟨m, hm⟩ : ∃ m, m = pos (kp ks) k := ⟨_, rfl⟩
  rw [← hm] at hml
  have HAT : Hid (∀ X, Below w.heap.size w X → Calls Try.prog 17 #[.agg #[.int .i64 1, .slice Ak ks.length ck, .slice Av vs.length cv, .slice An ns.length cn, .int .i64 0, .int .i64 0, .int .i64 0, .int .i64 0], .string k] X fun e w' => e = .returned (.tuple #[.int .i64 m, .bool false]) ∧ Below X.heap.size X w') := fun X hb => (at_any X (h.up hb) hr k).mono fun e w' he => ⟨he.1.trans (by
    have e1 : atZ ⟨1, ks, vs, ns⟩ k = m := by unfold atZ; rw [if_neg (fun h => absurd (show (1 : Int) = 2 from h.1) (by decide)), hm]
    rw [e1]
    show _ = _
    rw [hh]), he.2⟩
  have HC : Hid (∀ X, Below w.heap.size w X → Calls Try.prog 11 #[.agg #[.int .i64 1, .slice Ak ks.length ck, .slice Av vs.length cv, .slice An ns.length cn, .int .i64 0, .int .i64 0, .int .i64 0, .int .i64 0]] X fun e w' => ∃ K1 kc V1 vc N1 nc, e = .returned (.agg #[.int .i64 1, .slice K1 ks.length kc, .slice V1 vs.length vc, .slice N1 ns.length nc, .int .i64 0, .int .i64 0, .int .i64 0, .int .i64 0]) ∧ PgO w' X.heap.size (.slice K1 ks.length kc) (.slice V1 vs.length vc) (.slice N1 ns.length nc) ⟨1, ks, vs, ns⟩ ∧ Below X.heap.size X w') := fun X hb => (clone_any X (h.up hb)).mono fun e w' he => by
    obtain ⟨kv', vv', nv', e1, ho, hb'⟩ := he
    obtain ⟨K1, kc, V1, vc, N1, nc, q1, q2, q3⟩ := ho.rd.forms
    subst q1 q2 q3
    exact ⟨_, _, _, _, _, _, e1, ho, hb'⟩
  have HLEN := Lib.hid h.lens
  have HR := Lib.hid hr
  have HH := Lib.hid hh
  have HM := Lib.hid hm
  have HV := Lib.hid hv
  clear h hr hh hm hv
  unfold pv at *
  dsimp only at *
  go_enter Try.func19, Try.ntmps19
  go_wp2_with fail
  obtain ⟨W0, hW0⟩ : ∃ W0, W0 = (w.alloc (.cells #[.int .i64 1, .slice Ak ks.length ck, .slice Av vs.length cv, .slice An ns.length cn, .int .i64 0, .int .i64 0, .int .i64 0, .int .i64 0] 26)).alloc (.cells #[.int .i64 0, .slice none 0 0, .slice none 0 0, .slice none 0 0, .int .i64 0, .int .i64 0, .int .i64 0, .int .i64 0] 26) := ⟨_, rfl⟩
  rw [← hW0]
  have HSz : Hid (W0.heap.size = w.heap.size + 2) := Lib.hid (by rw [hW0]; simp)
  have HBw : Hid (Below w.heap.size w W0) := by rw [hW0]; exact ((Below.refl _ w).alloc (Nat.le_refl _) _).alloc (by simp) _
  have HS3 : Hid (∀ X, Below W0.heap.size W0 X → X.heap[w.heap.size]? = some (.cells #[.int .i64 1, .slice Ak ks.length ck, .slice Av vs.length cv, .slice An ns.length cn, .int .i64 0, .int .i64 0, .int .i64 0, .int .i64 0] 26 (0, 0))) := fun X hb => (hb.block _ (by rw [HSz.out]; omega)).trans (by rw [hW0, Below.heap_alloc _ _ _ (by simp)]; exact heap_alloc_new w _)
  have HS6 : Hid (∀ X, Below W0.heap.size W0 X → X.heap[w.heap.size + 1]? = some (.cells #[.int .i64 0, .slice none 0 0, .slice none 0 0, .slice none 0 0, .int .i64 0, .int .i64 0, .int .i64 0, .int .i64 0] 26 (0, 0))) := fun X hb => (hb.block _ (by rw [HSz.out]; omega)).trans (by
    rw [hW0]
    have h9 := heap_alloc_new (w.alloc (.cells #[.int .i64 1, .slice Ak ks.length ck, .slice Av vs.length cv, .slice An ns.length cn, .int .i64 0, .int .i64 0, .int .i64 0, .int .i64 0] 26)) (.cells #[.int .i64 0, .slice none 0 0, .slice none 0 0, .slice none 0 0, .int .i64 0, .int .i64 0, .int .i64 0, .int .i64 0] 26)
    rw [World.size_alloc] at h9
    exact h9)
  clear hW0
  refine (HAT.out W0 HBw.out).mono ?_
  rintro e W1 ⟨rfl, hb⟩
  have HB1 := Lib.hid hb
  clear hb
  obtain ⟨f0, f1, f2, f3, f4, f5, f6, f7, f8⟩ := row8_facts (HS3.out W1 HB1.out)
  go_wp2_with fail
  refine (HC.out W1 (HBw.out.trans (HB1.out.mono HBw.out.size))).mono ?_
  rintro e W2 ⟨K1, kc, V1, vc, N1, nc, rfl, ho, hb⟩
  have HO := Lib.hid (ho.base_ HB1.out.size)
  have HB2 := Lib.hid (HB1.out.trans (hb.mono HB1.out.size))
  clear ho hb
  clear f0 f1 f2 f3 f4 f5 f6 f7 f8
  obtain ⟨f0, f1, f2, f3, f4, f5, f6, f7, f8⟩ := row8_facts (HS3.out W2 HB2.out)
  have m0 : (0 : Int) ≤ (m : Int) := by omega
  go_upto_region 6 with fail
  clear f0 f1 f2 f3 f4 f5 f6 f7 f8
  obtain ⟨X, hX⟩ : ∃ X, X = ((((((((W2.setCell ⟨w.heap.size, 0, none⟩ (.int .i64 1)).setCell ⟨w.heap.size, 1, none⟩ (.slice K1 ks.length kc)).setCell ⟨w.heap.size, 2, none⟩ (.slice V1 vs.length vc)).setCell ⟨w.heap.size, 3, none⟩ (.slice N1 ns.length nc)).setCell ⟨w.heap.size, 4, none⟩ (.int .i64 0)).setCell ⟨w.heap.size, 5, none⟩ (.int .i64 0)).setCell ⟨w.heap.size, 6, none⟩ (.int .i64 0)).setCell ⟨w.heap.size, 7, none⟩ (.int .i64 0)) := ⟨_, rfl⟩
  rw [← hX]
  have HX3 : Hid (X.heap[w.heap.size]? = some (.cells #[.int .i64 1, .slice K1 ks.length kc, .slice V1 vs.length vc, .slice N1 ns.length nc, .int .i64 0, .int .i64 0, .int .i64 0, .int .i64 0] 26 (0, 0))) := by rw [hX]; exact row8_set (HS3.out W2 HB2.out) _ _ _ _ _ _ _ _
  have HKX : Hid (∀ g, g ≠ w.heap.size → X.heap[g]? = W2.heap[g]?) := fun g hg => by rw [hX]; exact set8_ne _ hg _ _ _ _ _ _ _ _
  have HX6 : Hid (X.heap[w.heap.size + 1]? = some (.cells #[.int .i64 0, .slice none 0 0, .slice none 0 0, .slice none 0 0, .int .i64 0, .int .i64 0, .int .i64 0, .int .i64 0] 26 (0, 0))) := Lib.hid ((HKX.out _ (by omega)).trans (HS6.out W2 HB2.out))
  have HXO : Hid (PgO X W0.heap.size (.slice K1 ks.length kc) (.slice V1 vs.length vc) (.slice N1 ns.length nc) ⟨1, ks, vs, ns⟩) := Lib.hid (HO.out.kept fun g hg => HKX.out g (by have := HSz.out; omega))
  have HXL : Hid (Below w.heap.size w X) := by rw [hX]; exact set8_below (HBw.out.trans (HB2.out.mono (by have := HSz.out; omega))) (Nat.le_refl _) _ _ _ _ _ _ _ _
  have HXS : Hid (W0.heap.size ≤ X.heap.size) := by rw [hX]; exact Lib.hid (by have := HB2.out.size; simpa [World.setCell] using this)
  clear hX
  refine Held3.ways_start (fun i W W' => decide (i ≠ 13 ∧ i ≠ 15) = true → (fun W : World => W.heap[w.heap.size]? = some (.cells #[.int .i64 1, .slice K1 ks.length kc, .slice V1 vs.length vc, .slice N1 ns.length nc, .int .i64 0, .int .i64 0, .int .i64 0, .int .i64 0] 26 (0, 0))) W → (fun W : World => W.heap[w.heap.size]? = some (.cells #[.int .i64 1, .slice K1 ks.length kc, .slice V1 vs.length vc, .slice N1 ns.length nc, .int .i64 0, .int .i64 0, .int .i64 0, .int .i64 0] 26 (0, 0))) W') (by kernel_rfl) ?_
  obtain ⟨D, hD⟩ : ∃ D, D = X.drew := ⟨_, rfl⟩
  rw [← hD]
  have HRD : Hid (D.heap[w.heap.size]? = some (.cells #[.int .i64 1, .slice K1 ks.length kc, .slice V1 vs.length vc, .slice N1 ns.length nc, .int .i64 0, .int .i64 0, .int .i64 0, .int .i64 0] 26 (0, 0))) := by rw [hD]; exact HX3
  have H6D : Hid (D.heap[w.heap.size + 1]? = some (.cells #[.int .i64 0, .slice none 0 0, .slice none 0 0, .slice none 0 0, .int .i64 0, .int .i64 0, .int .i64 0, .int .i64 0] 26 (0, 0))) := by rw [hD]; exact HX6
  have HKD : Hid (Own D W0.heap.size 9 1 (.slice K1 ks.length kc) ks.length (sc ks)) := by rw [hD]; exact Lib.hid HXO.out.keys.drew
  have HVD : Hid (Own D W0.heap.size 9 1 (.slice V1 vs.length vc) vs.length (sc vs)) := by rw [hD]; exact Lib.hid HXO.out.vals.drew
  have HND : Hid (Own D W0.heap.size 3 1 (.slice N1 ns.length nc) ns.length (ic ns)) := by rw [hD]; exact Lib.hid HXO.out.kids.drew
  have HPD : Hid (∀ g, (Value.slice K1 ks.length kc).ownBlock = some g → (Value.slice V1 vs.length vc).ownBlock ≠ some g) := HXO.out.apart
  have HLD : Hid (Below w.heap.size w D) := by rw [hD]; exact HXL.out.drew
  have HSD : Hid (W0.heap.size ≤ D.heap.size) := by rw [hD]; exact HXS
  clear hD
  have HSX := HRD.out
  refine Held3.Ways.plain (i := 0) (oi := ?o1) ?v1 ?hi1 ?hs1 ?hf1 ?hr1 ?hQ1 ?hy1 (fun _ _ _ => id) ?rest1
  case hi1 => exact rfl
  case hs1 => kernel_rfl
  case hf1 => kernel_rfl
  case hr1 => kernel_rfl
  case hQ1 => exact fun _ _ _ h => h
  case hy1 =>
    refine .inl ⟨by rfl, fun W _ => ?_⟩
    go_simp
    try with_reducible rfl
  try simp only [Act.put, List.setIfInBounds_toArray, List.set_cons_zero, List.set_cons_succ]
  refine Held3.Ways.take (i := 1) (oi := ?o2) (fun W : World => W.heap[w.heap.size]? = some (.cells #[.int .i64 1, .slice K1 ks.length kc, .slice V1 vs.length vc, .slice N1 ns.length nc, .int .i64 0, .int .i64 0, .int .i64 0, .int .i64 0] 26 (0, 0))) (fun i => decide (i ≠ 13 ∧ i ≠ 15)) ?v2 ?hi2 ?hs2 ?hf2 ?hlw2 ?hr2 ?hQ2 HSX ?hy2 (fun _ _ _ h => h) (fun _ _ _ => id) ?rest2
  case hi2 => exact rfl
  case hs2 => kernel_rfl
  case hf2 => kernel_rfl
  case hlw2 => kernel_rfl
  case hr2 => kernel_rfl
  case hQ2 => exact fun _ _ _ h => h
  case hy2 =>
    refine .inl ⟨by rfl, fun W hW => ?_⟩
    obtain ⟨f0, f1, f2, f3, f4, f5, f6, f7, f8⟩ := row8_facts (hW)
    go_simp
    try with_reducible rfl
  try simp only [Act.put, List.setIfInBounds_toArray, List.set_cons_zero, List.set_cons_succ]
  refine Held3.Ways.plain (i := 2) (oi := ?o3) ?v3 ?hi3 ?hs3 ?hf3 ?hr3 ?hQ3 ?hy3 (fun _ _ _ => id) ?rest3
  case hi3 => exact rfl
  case hs3 => kernel_rfl
  case hf3 => kernel_rfl
  case hr3 => kernel_rfl
  case hQ3 => exact fun _ _ _ h => h
  case hy3 =>
    refine .inl ⟨by rfl, fun W _ => ?_⟩
    go_simp
    try with_reducible rfl
  try simp only [Act.put, List.setIfInBounds_toArray, List.set_cons_zero, List.set_cons_succ]
  refine Held3.Ways.plain (i := 3) (oi := ?o4) ?v4 ?hi4 ?hs4 ?hf4 ?hr4 ?hQ4 ?hy4 (fun _ _ _ => id) ?rest4
  case hi4 => exact rfl
  case hs4 => kernel_rfl
  case hf4 => kernel_rfl
  case hr4 => kernel_rfl
  case hQ4 => exact fun _ _ _ h => h
  case hy4 =>
    refine .inl ⟨by rfl, fun W _ => ?_⟩
    go_simp
    try with_reducible rfl
  try simp only [Act.put, List.setIfInBounds_toArray, List.set_cons_zero, List.set_cons_succ]
  refine Held3.Ways.plain (i := 6) (oi := ?o5) ?v5 ?hi5 ?hs5 ?hf5 ?hr5 ?hQ5 ?hy5 (fun _ _ _ => id) ?rest5
  case hi5 => exact rfl
  case hs5 => kernel_rfl
  case hf5 => kernel_rfl
  case hr5 => kernel_rfl
  case hQ5 => exact fun _ _ _ h => h
  case hy5 =>
    refine .inl ⟨by rfl, fun W _ => ?_⟩
    go_simp
    try with_reducible rfl
  try simp only [Act.put, List.setIfInBounds_toArray, List.set_cons_zero, List.set_cons_succ]
  refine Held3.Ways.take (i := 7) (oi := ?o6) (fun W : World => W.heap[w.heap.size]? = some (.cells #[.int .i64 1, .slice K1 ks.length kc, .slice V1 vs.length vc, .slice N1 ns.length nc, .int .i64 0, .int .i64 0, .int .i64 0, .int .i64 0] 26 (0, 0))) (fun i => decide (i ≠ 13 ∧ i ≠ 15)) ?v6 ?hi6 ?hs6 ?hf6 ?hlw6 ?hr6 ?hQ6 HSX ?hy6 (fun _ _ _ h => h) (fun _ _ _ => id) ?rest6
  case hi6 => exact rfl
  case hs6 => kernel_rfl
  case hf6 => kernel_rfl
  case hlw6 => kernel_rfl
  case hr6 => kernel_rfl
  case hQ6 => exact fun _ _ _ h => h
  case hy6 =>
    refine .inl ⟨by rfl, fun W hW => ?_⟩
    obtain ⟨f0, f1, f2, f3, f4, f5, f6, f7, f8⟩ := row8_facts (hW)
    go_simp
    try with_reducible rfl
  try simp only [Act.put, List.setIfInBounds_toArray, List.set_cons_zero, List.set_cons_succ]
  refine Held3.Ways.plain (i := 8) (oi := ?o7) ?v7 ?hi7 ?hs7 ?hf7 ?hr7 ?hQ7 ?hy7 (fun _ _ _ => id) ?rest7
  case hi7 => exact rfl
  case hs7 => kernel_rfl
  case hf7 => kernel_rfl
  case hr7 => kernel_rfl
  case hQ7 => exact fun _ _ _ h => h
  case hy7 =>
    refine .inl ⟨by rfl, fun W _ => ?_⟩
    go_simp
    try with_reducible rfl
  try simp only [Act.put, List.setIfInBounds_toArray, List.set_cons_zero, List.set_cons_succ]
  refine Held3.Ways.plain (i := 9) (oi := ?o8) ?v8 ?hi8 ?hs8 ?hf8 ?hr8 ?hQ8 ?hy8 (fun _ _ _ => id) ?rest8
  case hi8 => exact rfl
  case hs8 => kernel_rfl
  case hf8 => kernel_rfl
  case hr8 => kernel_rfl
  case hQ8 => exact fun _ _ _ h => h
  case hy8 =>
    refine .inl ⟨by rfl, fun W _ => ?_⟩
    go_simp
    try with_reducible rfl
  try simp only [Act.put, List.setIfInBounds_toArray, List.set_cons_zero, List.set_cons_succ]
  refine Held3.Ways.two (i := 4) (j := 10) (by rfl) (by rfl) (by kernel_rfl) (fun K hK => ?_) (fun K hK => ?_)
  · go_simp
    refine hK.out _ _ (fun _ h => (Below.heap_alloc _ _ _ (Array.getElem?_eq_some_iff.1 h).1).trans h) ?_
    clear hK K
    try simp only [Act.put, List.setIfInBounds_toArray, List.set_cons_zero, List.set_cons_succ]
    obtain ⟨Da, hDa⟩ : ∃ V, V = D.alloc (.cells #[.string k] 9) := ⟨_, rfl⟩
    rw [← hDa]
    have HRDa : Hid (Da.heap[w.heap.size]? = some (.cells #[.int .i64 1, .slice K1 ks.length kc, .slice V1 vs.length vc, .slice N1 ns.length nc, .int .i64 0, .int .i64 0, .int .i64 0, .int .i64 0] 26 (0, 0))) := Lib.hid (by rw [hDa]; exact (Below.heap_alloc _ _ _ (Array.getElem?_eq_some_iff.1 HRD.out).1).trans HRD.out)
    have H6Da : Hid (Da.heap[w.heap.size + 1]? = some (.cells #[.int .i64 0, .slice none 0 0, .slice none 0 0, .slice none 0 0, .int .i64 0, .int .i64 0, .int .i64 0, .int .i64 0] 26 (0, 0))) := Lib.hid (by rw [hDa]; exact (Below.heap_alloc _ _ _ (Array.getElem?_eq_some_iff.1 H6D.out).1).trans H6D.out)
    have HKDa : Hid (Own Da W0.heap.size 9 1 (Value.slice K1 ks.length kc) (ks.length) (sc ks)) := Lib.hid (by rw [hDa]; exact HKD.out.alloc _)
    have HVDa : Hid (Own Da W0.heap.size 9 1 (Value.slice V1 vs.length vc) (vs.length) (sc vs)) := Lib.hid (by rw [hDa]; exact HVD.out.alloc _)
    have HNDa : Hid (Own Da W0.heap.size 3 1 (Value.slice N1 ns.length nc) (ns.length) (ic ns)) := Lib.hid (by rw [hDa]; exact HND.out.alloc _)
    have HLDa : Hid (Below w.heap.size w Da) := by rw [hDa]; exact Lib.hid (HLD.out.alloc HLD.out.size _)
    have HSDa : Hid (W0.heap.size ≤ Da.heap.size) := by rw [hDa]; exact Lib.hid (by have := HSD.out; simp; omega)
    have HBDa4 : Hid (Da.heap[D.heap.size]? = some (.cells [Value.string k].toArray 9 (0, 0))) := by rw [hDa]; exact Lib.hid (heap_alloc_new _ _)
    have HQDak : Hid ((Value.slice K1 ks.length kc).ownBlock ≠ some D.heap.size) := fun e => by have := (HKD.out.lt _ e).2; omega
    have HQDav : Hid ((Value.slice V1 vs.length vc).ownBlock ≠ some D.heap.size) := fun e => by have := (HVD.out.lt _ e).2; omega
    have HPDa := HPD
    clear hDa
    refine Held3.Ways.two (i := 5) (j := 10) (by rfl) (by rfl) (by kernel_rfl) (fun K hK => ?_) (fun K hK => ?_)
    · go_simp
      go_at_call 26
      refine (SlT.insert HKDa.out (sc_one _) (show m ≤ ks.length by omega) HBDa4.out rfl (sc_one [k]) HQDak.out (by have := HLEN.out; omega) HSDa.out).mono ?_
      rintro e Dac ⟨v9, rfl, ho, hb, hf⟩
      obtain ⟨ADac, cDac, rfl, _⟩ := ho.slice_
      have HFDac := Lib.hid hf
      have HODac := Lib.hid hb
      have HKDac : Hid (Own Dac W0.heap.size 9 1 (Value.slice ADac (ks.length + 1) cDac) (ks.length + 1) ((sc ks).take m ++ [Value.string k] ++ (sc ks).drop m)) := Lib.hid ho
      clear ho hb hf
      have HVDac := Lib.hid (HVDa.out.fr HFDac.out (fun g hg hm => HPDa.out g hm hg))
      have HNDac := Lib.hid (HNDa.out.fr HFDac.out (fun g hn hm => own_apart HKDa.out HNDa.out (by decide) g hm hn))
      have HRDac := Lib.hid (HFDac.out.blk HRDa.out (fun e => own_ne HKDa.out HRDa.out (by decide) e))
      have H6Dac := Lib.hid (HFDac.out.blk H6Da.out (fun e => own_ne HKDa.out H6Da.out (by decide) e))
      have HLDac : Hid (Below w.heap.size w Dac) := HLDa.out.trans (HFDac.out.below HLDa.out.size fun g _ hg => by have h1 := (HKDa.out.lt g hg).1; have h2 := HSz.out; omega)
      have HSDac : Hid (W0.heap.size ≤ Dac.heap.size) := Nat.le_trans HSDa.out HFDac.out.size
      have HPDac : Hid (∀ g, (Value.slice ADac (ks.length + 1) cDac).ownBlock = some g → (Value.slice V1 vs.length vc).ownBlock ≠ some g) := fun g hk hv => by
        rcases HODac.out with e | e
        · rw [e] at hk; exact HPDa.out g hk hv
        · rw [e] at hk
          injection hk with hk
          have := (HVDa.out.lt g hv).2
          omega
      dsimp only
      refine hK.out _ _ (fun _ _ => HRDac.out) ?_
      clear hK K
      try simp only [Act.put, List.setIfInBounds_toArray, List.set_cons_zero, List.set_cons_succ]
      refine Held3.Ways.plain (i := 12) (oi := ?o9) ?v9 ?hi9 ?hs9 ?hf9 ?hr9 ?hQ9 ?hy9 (fun _ _ _ => id) ?rest9
      case hi9 => exact rfl
      case hs9 => kernel_rfl
      case hf9 => kernel_rfl
      case hr9 => kernel_rfl
      case hQ9 => exact fun _ _ _ h => h
      case hy9 =>
        refine .inl ⟨by rfl, fun W _ => ?_⟩
        go_simp
        try with_reducible rfl
      try simp only [Act.put, List.setIfInBounds_toArray, List.set_cons_zero, List.set_cons_succ]
      refine Held3.Ways.one (i := 10) (by rfl) (by kernel_rfl) (fun K hK => ?_)
      go_simp
      refine hK.out _ _ (fun _ h => (Below.heap_alloc _ _ _ (Array.getElem?_eq_some_iff.1 h).1).trans h) ?_
      clear hK K
      try simp only [Act.put, List.setIfInBounds_toArray, List.set_cons_zero, List.set_cons_succ]
      obtain ⟨Dacb, hDacb⟩ : ∃ V, V = Dac.alloc (.cells #[.string v] 9) := ⟨_, rfl⟩
      rw [← hDacb]
      have HRDacb : Hid (Dacb.heap[w.heap.size]? = some (.cells #[.int .i64 1, .slice K1 ks.length kc, .slice V1 vs.length vc, .slice N1 ns.length nc, .int .i64 0, .int .i64 0, .int .i64 0, .int .i64 0] 26 (0, 0))) := Lib.hid (by rw [hDacb]; exact (Below.heap_alloc _ _ _ (Array.getElem?_eq_some_iff.1 HRDac.out).1).trans HRDac.out)
      have H6Dacb : Hid (Dacb.heap[w.heap.size + 1]? = some (.cells #[.int .i64 0, .slice none 0 0, .slice none 0 0, .slice none 0 0, .int .i64 0, .int .i64 0, .int .i64 0, .int .i64 0] 26 (0, 0))) := Lib.hid (by rw [hDacb]; exact (Below.heap_alloc _ _ _ (Array.getElem?_eq_some_iff.1 H6Dac.out).1).trans H6Dac.out)
      have HKDacb : Hid (Own Dacb W0.heap.size 9 1 (Value.slice ADac (ks.length + 1) cDac) (ks.length + 1) ((sc ks).take m ++ [Value.string k] ++ (sc ks).drop m)) := Lib.hid (by rw [hDacb]; exact HKDac.out.alloc _)
      have HVDacb : Hid (Own Dacb W0.heap.size 9 1 (Value.slice V1 vs.length vc) (vs.length) (sc vs)) := Lib.hid (by rw [hDacb]; exact HVDac.out.alloc _)
      have HNDacb : Hid (Own Dacb W0.heap.size 3 1 (Value.slice N1 ns.length nc) (ns.length) (ic ns)) := Lib.hid (by rw [hDacb]; exact HNDac.out.alloc _)
      have HLDacb : Hid (Below w.heap.size w Dacb) := by rw [hDacb]; exact Lib.hid (HLDac.out.alloc HLDac.out.size _)
      have HSDacb : Hid (W0.heap.size ≤ Dacb.heap.size) := by rw [hDacb]; exact Lib.hid (by have := HSDac.out; simp; omega)
      have HBDacb10 : Hid (Dacb.heap[Dac.heap.size]? = some (.cells [Value.string v].toArray 9 (0, 0))) := by rw [hDacb]; exact Lib.hid (heap_alloc_new _ _)
      have HQDacbk : Hid ((Value.slice ADac (ks.length + 1) cDac).ownBlock ≠ some Dac.heap.size) := fun e => by have := (HKDac.out.lt _ e).2; omega
      have HQDacbv : Hid ((Value.slice V1 vs.length vc).ownBlock ≠ some Dac.heap.size) := fun e => by have := (HVDac.out.lt _ e).2; omega
      have HPDacb := HPDac
      clear hDacb
      refine Held3.Ways.one (i := 11) (by rfl) (by kernel_rfl) (fun K hK => ?_)
      go_simp
      go_at_call 26
      refine (SlT.insert HVDacb.out (sc_one _) (show m ≤ vs.length by have := HV.out; omega) HBDacb10.out rfl (sc_one [v]) HQDacbv.out (by have := HLEN.out; omega) HSDacb.out).mono ?_
      rintro e Dacbd ⟨v9, rfl, ho, hb, hf⟩
      obtain ⟨ADacbd, cDacbd, rfl, _⟩ := ho.slice_
      have HFDacbd := Lib.hid hf
      have HODacbd := Lib.hid hb
      have HVDacbd : Hid (Own Dacbd W0.heap.size 9 1 (Value.slice ADacbd (vs.length + 1) cDacbd) (vs.length + 1) ((sc vs).take m ++ [Value.string v] ++ (sc vs).drop m)) := Lib.hid ho
      clear ho hb hf
      have HKDacbd := Lib.hid (HKDacb.out.fr HFDacbd.out (fun g hg hm => HPDacb.out g hg hm))
      have HNDacbd := Lib.hid (HNDacb.out.fr HFDacbd.out (fun g hn hm => own_apart HVDacb.out HNDacb.out (by decide) g hm hn))
      have HRDacbd := Lib.hid (HFDacbd.out.blk HRDacb.out (fun e => own_ne HVDacb.out HRDacb.out (by decide) e))
      have H6Dacbd := Lib.hid (HFDacbd.out.blk H6Dacb.out (fun e => own_ne HVDacb.out H6Dacb.out (by decide) e))
      have HLDacbd : Hid (Below w.heap.size w Dacbd) := HLDacb.out.trans (HFDacbd.out.below HLDacb.out.size fun g _ hg => by have h1 := (HVDacb.out.lt g hg).1; have h2 := HSz.out; omega)
      have HSDacbd : Hid (W0.heap.size ≤ Dacbd.heap.size) := Nat.le_trans HSDacb.out HFDacbd.out.size
      have HPDacbd : Hid (∀ g, (Value.slice ADac (ks.length + 1) cDac).ownBlock = some g → (Value.slice ADacbd (vs.length + 1) cDacbd).ownBlock ≠ some g) := fun g hk hv => by
        rcases HODacbd.out with e | e
        · rw [e] at hv; exact HPDacb.out g hk hv
        · rw [e] at hv
          injection hv with hv
          have := (HKDacb.out.lt g hk).2
          omega
      dsimp only
      refine hK.out _ _ (fun _ _ => HRDacbd.out) ?_
      clear hK K
      try simp only [Act.put, List.setIfInBounds_toArray, List.set_cons_zero, List.set_cons_succ]
      refine Held3.Ways.one (i := 13) (by rfl) (by kernel_rfl) (fun K hK => ?_)
      obtain ⟨f0, f1, f2, f3, f4, f5, f6, f7, f8⟩ := row8_facts (HRDacbd.out)
      go_simp
      refine hK.out _ _ (fun h => absurd h (by decide)) ?_
      clear hK K
      try simp only [Act.put, List.setIfInBounds_toArray, List.set_cons_zero, List.set_cons_succ]
      refine Held3.Ways.plain (i := 14) (oi := ?o10) ?v10 ?hi10 ?hs10 ?hf10 ?hr10 ?hQ10 ?hy10 (fun _ _ _ => id) ?rest10
      case hi10 => exact rfl
      case hs10 => kernel_rfl
      case hf10 => kernel_rfl
      case hr10 => kernel_rfl
      case hQ10 => exact fun _ _ _ h => h
      case hy10 =>
        refine .inl ⟨by rfl, fun W _ => ?_⟩
        go_simp
        try with_reducible rfl
      try simp only [Act.put, List.setIfInBounds_toArray, List.set_cons_zero, List.set_cons_succ]
      refine Held3.Ways.one (i := 15) (by rfl) (by kernel_rfl) (fun K hK => ?_)
      go_simp
      refine hK.out _ _ (fun h => absurd h (by decide)) ?_
      clear hK K
      try simp only [Act.put, List.setIfInBounds_toArray, List.set_cons_zero, List.set_cons_succ]
      refine Held3.Ways.done (by kernel_rfl) ?_ _
      clear f0 f1 f2 f3 f4 f5 f6 f7 f8
      obtain ⟨Y, hY⟩ : ∃ Y, Y = ((Dacbd.setCell ⟨w.heap.size, 1, none⟩ (Value.slice ADac (ks.length + 1) cDac)).setCell ⟨w.heap.size, 2, none⟩ (Value.slice ADacbd (vs.length + 1) cDacbd)) := ⟨_, rfl⟩
      rw [← hY]
      have hkeep : ∀ g, g ≠ w.heap.size → Y.heap[g]? = Dacbd.heap[g]? := fun g hg => by rw [hY]; exact (Below.heap_setCell _ _ _ _ hg).trans (Below.heap_setCell _ _ _ _ hg)
      have HY3 : Hid (Y.heap[w.heap.size]? = some (.cells #[.int .i64 1, (Value.slice ADac (ks.length + 1) cDac), (Value.slice ADacbd (vs.length + 1) cDacbd), .slice N1 ns.length nc, .int .i64 0, .int .i64 0, .int .i64 0, .int .i64 0] 26 (0, 0))) := by
        rw [hY]
        have h9 := heap_setCell_same _ w.heap.size 2 _ _ (Value.slice ADacbd (vs.length + 1) cDacbd) (heap_setCell_same Dacbd w.heap.size 1 _ _ (Value.slice ADac (ks.length + 1) cDac) HRDacbd.out)
        exact Lib.hid (by simpa using h9)
      have HY6 : Hid (Y.heap[w.heap.size + 1]? = some (.cells #[.int .i64 0, .slice none 0 0, .slice none 0 0, .slice none 0 0, .int .i64 0, .int .i64 0, .int .i64 0, .int .i64 0] 26 (0, 0))) := Lib.hid ((hkeep _ (by omega)).trans H6Dacbd.out)
      have HYL : Hid (Below w.heap.size w Y) := by rw [hY]; exact below_set (below_set HLDacbd.out (Nat.le_refl _) _) (Nat.le_refl _) _
      have HYK := Lib.hid (HKDacbd.out.kept fun g hg => hkeep g (by have h1 := (HKDacbd.out.lt g hg).1; have h2 := HSz.out; omega))
      have HYV := Lib.hid (HVDacbd.out.kept fun g hg => hkeep g (by have h1 := (HVDacbd.out.lt g hg).1; have h2 := HSz.out; omega))
      have HYN := Lib.hid (HNDacbd.out.kept fun g hg => hkeep g (by have h1 := (HNDacbd.out.lt g hg).1; have h2 := HSz.out; omega))
      clear hY hkeep
      obtain ⟨f0, f1, f2, f3, f4, f5, f6, f7, f8⟩ := row8_facts (HY3.out)
      obtain ⟨z0, z1, z2, z3, z4, z5, z6, z7, z8⟩ := row8_facts (HY6.out)
      go_wp2_with fail
      clear f0 f1 f2 f3 f4 f5 f6 f7 f8 z0 z1 z2 z3 z4 z5 z6 z7 z8
      refine bodyPost_ret (results_cell_row rfl _ _ (w.heap.size + 1) 26 _ (0, 0) _ rfl (row8_set HY6.out _ _ _ _ _ _ _ _) Try.underlying26 rfl rfl) rfl ?_
      have hfin : ∀ g, W0.heap.size ≤ g → (((((((((Y.setCell ⟨(w.heap.size + 1), 0, none⟩ (.int .i64 1)).setCell ⟨(w.heap.size + 1), 1, none⟩ ((Value.slice ADac (ks.length + 1) cDac))).setCell ⟨(w.heap.size + 1), 2, none⟩ ((Value.slice ADacbd (vs.length + 1) cDacbd))).setCell ⟨(w.heap.size + 1), 3, none⟩ (.slice N1 ns.length nc)).setCell ⟨(w.heap.size + 1), 4, none⟩ (.int .i64 0)).setCell ⟨(w.heap.size + 1), 5, none⟩ (.int .i64 0)).setCell ⟨(w.heap.size + 1), 6, none⟩ (.int .i64 0)).setCell ⟨(w.heap.size + 1), 7, none⟩ (.int .i64 0))).heap[g]? = Y.heap[g]? := fun g hg => set8_ne _ (by have := HSz.out; omega) _ _ _ _ _ _ _ _
      have hsz := HSz.out
      obtain ⟨l1, l2, l3⟩ := HLEN.out
      have hvl := HV.out
      have ek : (sc ks).take m ++ [Value.string k] ++ (sc ks).drop m = sc (ks.take m ++ k :: ks.drop m) := by simp [sc, List.map_take, List.map_drop]
      have ev : (sc vs).take m ++ [Value.string v] ++ (sc vs).drop m = sc (vs.take m ++ v :: vs.drop m) := by simp [sc, List.map_take, List.map_drop]
      have nk : (ks.take m ++ k :: ks.drop m).length = ks.length + 1 := by simp; omega
      have nv : (vs.take m ++ v :: vs.drop m).length = vs.length + 1 := by simp; omega
      have hK := HYK.out
      have hV := HYV.out
      rw [ek, ← nk] at hK
      rw [ev, ← nv] at hV
      rw [← nk, ← nv] at hfin ⊢
      refine ⟨_, _, _, rfl, ⟨?_, ?_, ?_, ?_, ?_⟩, set8_below HYL.out (Nat.le_succ _) _ _ _ _ _ _ _ _⟩
      · rw [← HM.out]
        exact (hK.base_ (base' := w.heap.size) fun g hg => by have := (hK.lt g hg).1; omega).kept fun g hg => hfin g (hK.lt g hg).1
      · rw [← HM.out]
        exact (hV.base_ (base' := w.heap.size) fun g hg => by have := (hV.lt g hg).1; omega).kept fun g hg => hfin g (hV.lt g hg).1
      · exact (HYN.out.base_ (base' := w.heap.size) fun g hg => by have := (HYN.out.lt g hg).1; omega).kept fun g hg => hfin g (HYN.out.lt g hg).1
      · rw [← HM.out]
        dsimp only
        rw [nk, nv]; exact ⟨by omega, by omega, l3⟩
      · rw [nk, nv]; exact HPDacbd.out
    · go_simp
      refine hK.out _ _ (fun _ h => (Below.heap_alloc _ _ _ (Array.getElem?_eq_some_iff.1 h).1).trans h) ?_
      clear hK K
      try simp only [Act.put, List.setIfInBounds_toArray, List.set_cons_zero, List.set_cons_succ]
      obtain ⟨Dab, hDab⟩ : ∃ V, V = Da.alloc (.cells #[.string v] 9) := ⟨_, rfl⟩
      rw [← hDab]
      have HRDab : Hid (Dab.heap[w.heap.size]? = some (.cells #[.int .i64 1, .slice K1 ks.length kc, .slice V1 vs.length vc, .slice N1 ns.length nc, .int .i64 0, .int .i64 0, .int .i64 0, .int .i64 0] 26 (0, 0))) := Lib.hid (by rw [hDab]; exact (Below.heap_alloc _ _ _ (Array.getElem?_eq_some_iff.1 HRDa.out).1).trans HRDa.out)
      have H6Dab : Hid (Dab.heap[w.heap.size + 1]? = some (.cells #[.int .i64 0, .slice none 0 0, .slice none 0 0, .slice none 0 0, .int .i64 0, .int .i64 0, .int .i64 0, .int .i64 0] 26 (0, 0))) := Lib.hid (by rw [hDab]; exact (Below.heap_alloc _ _ _ (Array.getElem?_eq_some_iff.1 H6Da.out).1).trans H6Da.out)
      have HKDab : Hid (Own Dab W0.heap.size 9 1 (Value.slice K1 ks.length kc) (ks.length) (sc ks)) := Lib.hid (by rw [hDab]; exact HKDa.out.alloc _)
      have HVDab : Hid (Own Dab W0.heap.size 9 1 (Value.slice V1 vs.length vc) (vs.length) (sc vs)) := Lib.hid (by rw [hDab]; exact HVDa.out.alloc _)
      have HNDab : Hid (Own Dab W0.heap.size 3 1 (Value.slice N1 ns.length nc) (ns.length) (ic ns)) := Lib.hid (by rw [hDab]; exact HNDa.out.alloc _)
      have HLDab : Hid (Below w.heap.size w Dab) := by rw [hDab]; exact Lib.hid (HLDa.out.alloc HLDa.out.size _)
      have HSDab : Hid (W0.heap.size ≤ Dab.heap.size) := by rw [hDab]; exact Lib.hid (by have := HSDa.out; simp; omega)
      have HBDab10 : Hid (Dab.heap[Da.heap.size]? = some (.cells [Value.string v].toArray 9 (0, 0))) := by rw [hDab]; exact Lib.hid (heap_alloc_new _ _)
      have HQDabk : Hid ((Value.slice K1 ks.length kc).ownBlock ≠ some Da.heap.size) := fun e => by have := (HKDa.out.lt _ e).2; omega
      have HQDabv : Hid ((Value.slice V1 vs.length vc).ownBlock ≠ some Da.heap.size) := fun e => by have := (HVDa.out.lt _ e).2; omega
      have HBDab4 := Lib.hid (show Dab.heap[D.heap.size]? = some (.cells [Value.string k].toArray 9 (0, 0)) by rw [hDab]; exact (Below.heap_alloc _ _ _ (Array.getElem?_eq_some_iff.1 HBDa4.out).1).trans HBDa4.out)
      have HPDab := HPDa
      clear hDab
      refine Held3.Ways.one (i := 5) (by rfl) (by kernel_rfl) (fun K hK => ?_)
      go_simp
      go_at_call 26
      refine (SlT.insert HKDab.out (sc_one _) (show m ≤ ks.length by omega) HBDab4.out rfl (sc_one [k]) HQDak.out (by have := HLEN.out; omega) HSDab.out).mono ?_
      rintro e Dabc ⟨v9, rfl, ho, hb, hf⟩
      obtain ⟨ADabc, cDabc, rfl, _⟩ := ho.slice_
      have HFDabc := Lib.hid hf
      have HODabc := Lib.hid hb
      have HKDabc : Hid (Own Dabc W0.heap.size 9 1 (Value.slice ADabc (ks.length + 1) cDabc) (ks.length + 1) ((sc ks).take m ++ [Value.string k] ++ (sc ks).drop m)) := Lib.hid ho
      clear ho hb hf
      have HVDabc := Lib.hid (HVDab.out.fr HFDabc.out (fun g hg hm => HPDab.out g hm hg))
      have HNDabc := Lib.hid (HNDab.out.fr HFDabc.out (fun g hn hm => own_apart HKDab.out HNDab.out (by decide) g hm hn))
      have HRDabc := Lib.hid (HFDabc.out.blk HRDab.out (fun e => own_ne HKDab.out HRDab.out (by decide) e))
      have H6Dabc := Lib.hid (HFDabc.out.blk H6Dab.out (fun e => own_ne HKDab.out H6Dab.out (by decide) e))
      have HLDabc : Hid (Below w.heap.size w Dabc) := HLDab.out.trans (HFDabc.out.below HLDab.out.size fun g _ hg => by have h1 := (HKDab.out.lt g hg).1; have h2 := HSz.out; omega)
      have HSDabc : Hid (W0.heap.size ≤ Dabc.heap.size) := Nat.le_trans HSDab.out HFDabc.out.size
      have HBDabc10 := Lib.hid (HFDabc.out.blk HBDab10.out HQDabk.out)
      have HPDabc : Hid (∀ g, (Value.slice ADabc (ks.length + 1) cDabc).ownBlock = some g → (Value.slice V1 vs.length vc).ownBlock ≠ some g) := fun g hk hv => by
        rcases HODabc.out with e | e
        · rw [e] at hk; exact HPDab.out g hk hv
        · rw [e] at hk
          injection hk with hk
          have := (HVDab.out.lt g hv).2
          omega
      dsimp only
      refine hK.out _ _ (fun _ _ => HRDabc.out) ?_
      clear hK K
      try simp only [Act.put, List.setIfInBounds_toArray, List.set_cons_zero, List.set_cons_succ]
      refine Held3.Ways.plain (i := 12) (oi := ?o11) ?v11 ?hi11 ?hs11 ?hf11 ?hr11 ?hQ11 ?hy11 (fun _ _ _ => id) ?rest11
      case hi11 => exact rfl
      case hs11 => kernel_rfl
      case hf11 => kernel_rfl
      case hr11 => kernel_rfl
      case hQ11 => exact fun _ _ _ h => h
      case hy11 =>
        refine .inl ⟨by rfl, fun W _ => ?_⟩
        go_simp
        try with_reducible rfl
      try simp only [Act.put, List.setIfInBounds_toArray, List.set_cons_zero, List.set_cons_succ]
      refine Held3.Ways.one (i := 11) (by rfl) (by kernel_rfl) (fun K hK => ?_)
      go_simp
      go_at_call 26
      refine (SlT.insert HVDabc.out (sc_one _) (show m ≤ vs.length by have := HV.out; omega) HBDabc10.out rfl (sc_one [v]) HQDabv.out (by have := HLEN.out; omega) HSDabc.out).mono ?_
      rintro e Dabcd ⟨v9, rfl, ho, hb, hf⟩
      obtain ⟨ADabcd, cDabcd, rfl, _⟩ := ho.slice_
      have HFDabcd := Lib.hid hf
      have HODabcd := Lib.hid hb
      have HVDabcd : Hid (Own Dabcd W0.heap.size 9 1 (Value.slice ADabcd (vs.length + 1) cDabcd) (vs.length + 1) ((sc vs).take m ++ [Value.string v] ++ (sc vs).drop m)) := Lib.hid ho
      clear ho hb hf
      have HKDabcd := Lib.hid (HKDabc.out.fr HFDabcd.out (fun g hg hm => HPDabc.out g hg hm))
      have HNDabcd := Lib.hid (HNDabc.out.fr HFDabcd.out (fun g hn hm => own_apart HVDabc.out HNDabc.out (by decide) g hm hn))
      have HRDabcd := Lib.hid (HFDabcd.out.blk HRDabc.out (fun e => own_ne HVDabc.out HRDabc.out (by decide) e))
      have H6Dabcd := Lib.hid (HFDabcd.out.blk H6Dabc.out (fun e => own_ne HVDabc.out H6Dabc.out (by decide) e))
      have HLDabcd : Hid (Below w.heap.size w Dabcd) := HLDabc.out.trans (HFDabcd.out.below HLDabc.out.size fun g _ hg => by have h1 := (HVDabc.out.lt g hg).1; have h2 := HSz.out; omega)
      have HSDabcd : Hid (W0.heap.size ≤ Dabcd.heap.size) := Nat.le_trans HSDabc.out HFDabcd.out.size
      have HPDabcd : Hid (∀ g, (Value.slice ADabc (ks.length + 1) cDabc).ownBlock = some g → (Value.slice ADabcd (vs.length + 1) cDabcd).ownBlock ≠ some g) := fun g hk hv => by
        rcases HODabcd.out with e | e
        · rw [e] at hv; exact HPDabc.out g hk hv
        · rw [e] at hv
          injection hv with hv
          have := (HKDabc.out.lt g hk).2
          omega
      dsimp only
      refine hK.out _ _ (fun _ _ => HRDabcd.out) ?_
      clear hK K
      try simp only [Act.put, List.setIfInBounds_toArray, List.set_cons_zero, List.set_cons_succ]
      refine Held3.Ways.one (i := 13) (by rfl) (by kernel_rfl) (fun K hK => ?_)
      obtain ⟨f0, f1, f2, f3, f4, f5, f6, f7, f8⟩ := row8_facts (HRDabcd.out)
      go_simp
      refine hK.out _ _ (fun h => absurd h (by decide)) ?_
      clear hK K
      try simp only [Act.put, List.setIfInBounds_toArray, List.set_cons_zero, List.set_cons_succ]
      refine Held3.Ways.plain (i := 14) (oi := ?o12) ?v12 ?hi12 ?hs12 ?hf12 ?hr12 ?hQ12 ?hy12 (fun _ _ _ => id) ?rest12
      case hi12 => exact rfl
      case hs12 => kernel_rfl
      case hf12 => kernel_rfl
      case hr12 => kernel_rfl
      case hQ12 => exact fun _ _ _ h => h
      case hy12 =>
        refine .inl ⟨by rfl, fun W _ => ?_⟩
        go_simp
        try with_reducible rfl
      try simp only [Act.put, List.setIfInBounds_toArray, List.set_cons_zero, List.set_cons_succ]
      refine Held3.Ways.one (i := 15) (by rfl) (by kernel_rfl) (fun K hK => ?_)
      go_simp
      refine hK.out _ _ (fun h => absurd h (by decide)) ?_
      clear hK K
      try simp only [Act.put, List.setIfInBounds_toArray, List.set_cons_zero, List.set_cons_succ]
      refine Held3.Ways.done (by kernel_rfl) ?_ _
      clear f0 f1 f2 f3 f4 f5 f6 f7 f8
      obtain ⟨Y, hY⟩ : ∃ Y, Y = ((Dabcd.setCell ⟨w.heap.size, 1, none⟩ (Value.slice ADabc (ks.length + 1) cDabc)).setCell ⟨w.heap.size, 2, none⟩ (Value.slice ADabcd (vs.length + 1) cDabcd)) := ⟨_, rfl⟩
      rw [← hY]
      have hkeep : ∀ g, g ≠ w.heap.size → Y.heap[g]? = Dabcd.heap[g]? := fun g hg => by rw [hY]; exact (Below.heap_setCell _ _ _ _ hg).trans (Below.heap_setCell _ _ _ _ hg)
      have HY3 : Hid (Y.heap[w.heap.size]? = some (.cells #[.int .i64 1, (Value.slice ADabc (ks.length + 1) cDabc), (Value.slice ADabcd (vs.length + 1) cDabcd), .slice N1 ns.length nc, .int .i64 0, .int .i64 0, .int .i64 0, .int .i64 0] 26 (0, 0))) := by
        rw [hY]
        have h9 := heap_setCell_same _ w.heap.size 2 _ _ (Value.slice ADabcd (vs.length + 1) cDabcd) (heap_setCell_same Dabcd w.heap.size 1 _ _ (Value.slice ADabc (ks.length + 1) cDabc) HRDabcd.out)
        exact Lib.hid (by simpa using h9)
      have HY6 : Hid (Y.heap[w.heap.size + 1]? = some (.cells #[.int .i64 0, .slice none 0 0, .slice none 0 0, .slice none 0 0, .int .i64 0, .int .i64 0, .int .i64 0, .int .i64 0] 26 (0, 0))) := Lib.hid ((hkeep _ (by omega)).trans H6Dabcd.out)
      have HYL : Hid (Below w.heap.size w Y) := by rw [hY]; exact below_set (below_set HLDabcd.out (Nat.le_refl _) _) (Nat.le_refl _) _
      have HYK := Lib.hid (HKDabcd.out.kept fun g hg => hkeep g (by have h1 := (HKDabcd.out.lt g hg).1; have h2 := HSz.out; omega))
      have HYV := Lib.hid (HVDabcd.out.kept fun g hg => hkeep g (by have h1 := (HVDabcd.out.lt g hg).1; have h2 := HSz.out; omega))
      have HYN := Lib.hid (HNDabcd.out.kept fun g hg => hkeep g (by have h1 := (HNDabcd.out.lt g hg).1; have h2 := HSz.out; omega))
      clear hY hkeep
      obtain ⟨f0, f1, f2, f3, f4, f5, f6, f7, f8⟩ := row8_facts (HY3.out)
      obtain ⟨z0, z1, z2, z3, z4, z5, z6, z7, z8⟩ := row8_facts (HY6.out)
      go_wp2_with fail
      clear f0 f1 f2 f3 f4 f5 f6 f7 f8 z0 z1 z2 z3 z4 z5 z6 z7 z8
      refine bodyPost_ret (results_cell_row rfl _ _ (w.heap.size + 1) 26 _ (0, 0) _ rfl (row8_set HY6.out _ _ _ _ _ _ _ _) Try.underlying26 rfl rfl) rfl ?_
      have hfin : ∀ g, W0.heap.size ≤ g → (((((((((Y.setCell ⟨(w.heap.size + 1), 0, none⟩ (.int .i64 1)).setCell ⟨(w.heap.size + 1), 1, none⟩ ((Value.slice ADabc (ks.length + 1) cDabc))).setCell ⟨(w.heap.size + 1), 2, none⟩ ((Value.slice ADabcd (vs.length + 1) cDabcd))).setCell ⟨(w.heap.size + 1), 3, none⟩ (.slice N1 ns.length nc)).setCell ⟨(w.heap.size + 1), 4, none⟩ (.int .i64 0)).setCell ⟨(w.heap.size + 1), 5, none⟩ (.int .i64 0)).setCell ⟨(w.heap.size + 1), 6, none⟩ (.int .i64 0)).setCell ⟨(w.heap.size + 1), 7, none⟩ (.int .i64 0))).heap[g]? = Y.heap[g]? := fun g hg => set8_ne _ (by have := HSz.out; omega) _ _ _ _ _ _ _ _
      have hsz := HSz.out
      obtain ⟨l1, l2, l3⟩ := HLEN.out
      have hvl := HV.out
      have ek : (sc ks).take m ++ [Value.string k] ++ (sc ks).drop m = sc (ks.take m ++ k :: ks.drop m) := by simp [sc, List.map_take, List.map_drop]
      have ev : (sc vs).take m ++ [Value.string v] ++ (sc vs).drop m = sc (vs.take m ++ v :: vs.drop m) := by simp [sc, List.map_take, List.map_drop]
      have nk : (ks.take m ++ k :: ks.drop m).length = ks.length + 1 := by simp; omega
      have nv : (vs.take m ++ v :: vs.drop m).length = vs.length + 1 := by simp; omega
      have hK := HYK.out
      have hV := HYV.out
      rw [ek, ← nk] at hK
      rw [ev, ← nv] at hV
      rw [← nk, ← nv] at hfin ⊢
      refine ⟨_, _, _, rfl, ⟨?_, ?_, ?_, ?_, ?_⟩, set8_below HYL.out (Nat.le_succ _) _ _ _ _ _ _ _ _⟩
      · rw [← HM.out]
        exact (hK.base_ (base' := w.heap.size) fun g hg => by have := (hK.lt g hg).1; omega).kept fun g hg => hfin g (hK.lt g hg).1
      · rw [← HM.out]
        exact (hV.base_ (base' := w.heap.size) fun g hg => by have := (hV.lt g hg).1; omega).kept fun g hg => hfin g (hV.lt g hg).1
      · exact (HYN.out.base_ (base' := w.heap.size) fun g hg => by have := (HYN.out.lt g hg).1; omega).kept fun g hg => hfin g (HYN.out.lt g hg).1
      · rw [← HM.out]
        dsimp only
        rw [nk, nv]; exact ⟨by omega, by omega, l3⟩
      · rw [nk, nv]; exact HPDabcd.out
  · go_simp
    refine hK.out _ _ (fun _ h => (Below.heap_alloc _ _ _ (Array.getElem?_eq_some_iff.1 h).1).trans h) ?_
    clear hK K
    try simp only [Act.put, List.setIfInBounds_toArray, List.set_cons_zero, List.set_cons_succ]
    obtain ⟨Db, hDb⟩ : ∃ V, V = D.alloc (.cells #[.string v] 9) := ⟨_, rfl⟩
    rw [← hDb]
    have HRDb : Hid (Db.heap[w.heap.size]? = some (.cells #[.int .i64 1, .slice K1 ks.length kc, .slice V1 vs.length vc, .slice N1 ns.length nc, .int .i64 0, .int .i64 0, .int .i64 0, .int .i64 0] 26 (0, 0))) := Lib.hid (by rw [hDb]; exact (Below.heap_alloc _ _ _ (Array.getElem?_eq_some_iff.1 HRD.out).1).trans HRD.out)
    have H6Db : Hid (Db.heap[w.heap.size + 1]? = some (.cells #[.int .i64 0, .slice none 0 0, .slice none 0 0, .slice none 0 0, .int .i64 0, .int .i64 0, .int .i64 0, .int .i64 0] 26 (0, 0))) := Lib.hid (by rw [hDb]; exact (Below.heap_alloc _ _ _ (Array.getElem?_eq_some_iff.1 H6D.out).1).trans H6D.out)
    have HKDb : Hid (Own Db W0.heap.size 9 1 (Value.slice K1 ks.length kc) (ks.length) (sc ks)) := Lib.hid (by rw [hDb]; exact HKD.out.alloc _)
    have HVDb : Hid (Own Db W0.heap.size 9 1 (Value.slice V1 vs.length vc) (vs.length) (sc vs)) := Lib.hid (by rw [hDb]; exact HVD.out.alloc _)
    have HNDb : Hid (Own Db W0.heap.size 3 1 (Value.slice N1 ns.length nc) (ns.length) (ic ns)) := Lib.hid (by rw [hDb]; exact HND.out.alloc _)
    have HLDb : Hid (Below w.heap.size w Db) := by rw [hDb]; exact Lib.hid (HLD.out.alloc HLD.out.size _)
    have HSDb : Hid (W0.heap.size ≤ Db.heap.size) := by rw [hDb]; exact Lib.hid (by have := HSD.out; simp; omega)
    have HBDb10 : Hid (Db.heap[D.heap.size]? = some (.cells [Value.string v].toArray 9 (0, 0))) := by rw [hDb]; exact Lib.hid (heap_alloc_new _ _)
    have HQDbk : Hid ((Value.slice K1 ks.length kc).ownBlock ≠ some D.heap.size) := fun e => by have := (HKD.out.lt _ e).2; omega
    have HQDbv : Hid ((Value.slice V1 vs.length vc).ownBlock ≠ some D.heap.size) := fun e => by have := (HVD.out.lt _ e).2; omega
    have HPDb := HPD
    clear hDb
    refine Held3.Ways.one (i := 4) (by rfl) (by kernel_rfl) (fun K hK => ?_)
    go_simp
    refine hK.out _ _ (fun _ h => (Below.heap_alloc _ _ _ (Array.getElem?_eq_some_iff.1 h).1).trans h) ?_
    clear hK K
    try simp only [Act.put, List.setIfInBounds_toArray, List.set_cons_zero, List.set_cons_succ]
    obtain ⟨Dba, hDba⟩ : ∃ V, V = Db.alloc (.cells #[.string k] 9) := ⟨_, rfl⟩
    rw [← hDba]
    have HRDba : Hid (Dba.heap[w.heap.size]? = some (.cells #[.int .i64 1, .slice K1 ks.length kc, .slice V1 vs.length vc, .slice N1 ns.length nc, .int .i64 0, .int .i64 0, .int .i64 0, .int .i64 0] 26 (0, 0))) := Lib.hid (by rw [hDba]; exact (Below.heap_alloc _ _ _ (Array.getElem?_eq_some_iff.1 HRDb.out).1).trans HRDb.out)
    have H6Dba : Hid (Dba.heap[w.heap.size + 1]? = some (.cells #[.int .i64 0, .slice none 0 0, .slice none 0 0, .slice none 0 0, .int .i64 0, .int .i64 0, .int .i64 0, .int .i64 0] 26 (0, 0))) := Lib.hid (by rw [hDba]; exact (Below.heap_alloc _ _ _ (Array.getElem?_eq_some_iff.1 H6Db.out).1).trans H6Db.out)
    have HKDba : Hid (Own Dba W0.heap.size 9 1 (Value.slice K1 ks.length kc) (ks.length) (sc ks)) := Lib.hid (by rw [hDba]; exact HKDb.out.alloc _)
    have HVDba : Hid (Own Dba W0.heap.size 9 1 (Value.slice V1 vs.length vc) (vs.length) (sc vs)) := Lib.hid (by rw [hDba]; exact HVDb.out.alloc _)
    have HNDba : Hid (Own Dba W0.heap.size 3 1 (Value.slice N1 ns.length nc) (ns.length) (ic ns)) := Lib.hid (by rw [hDba]; exact HNDb.out.alloc _)
    have HLDba : Hid (Below w.heap.size w Dba) := by rw [hDba]; exact Lib.hid (HLDb.out.alloc HLDb.out.size _)
    have HSDba : Hid (W0.heap.size ≤ Dba.heap.size) := by rw [hDba]; exact Lib.hid (by have := HSDb.out; simp; omega)
    have HBDba4 : Hid (Dba.heap[Db.heap.size]? = some (.cells [Value.string k].toArray 9 (0, 0))) := by rw [hDba]; exact Lib.hid (heap_alloc_new _ _)
    have HQDbak : Hid ((Value.slice K1 ks.length kc).ownBlock ≠ some Db.heap.size) := fun e => by have := (HKDb.out.lt _ e).2; omega
    have HQDbav : Hid ((Value.slice V1 vs.length vc).ownBlock ≠ some Db.heap.size) := fun e => by have := (HVDb.out.lt _ e).2; omega
    have HBDba10 := Lib.hid (show Dba.heap[D.heap.size]? = some (.cells [Value.string v].toArray 9 (0, 0)) by rw [hDba]; exact (Below.heap_alloc _ _ _ (Array.getElem?_eq_some_iff.1 HBDb10.out).1).trans HBDb10.out)
    have HPDba := HPDb
    clear hDba
    refine Held3.Ways.one (i := 5) (by rfl) (by kernel_rfl) (fun K hK => ?_)
    go_simp
    go_at_call 26
    refine (SlT.insert HKDba.out (sc_one _) (show m ≤ ks.length by omega) HBDba4.out rfl (sc_one [k]) HQDbak.out (by have := HLEN.out; omega) HSDba.out).mono ?_
    rintro e Dbac ⟨v9, rfl, ho, hb, hf⟩
    obtain ⟨ADbac, cDbac, rfl, _⟩ := ho.slice_
    have HFDbac := Lib.hid hf
    have HODbac := Lib.hid hb
    have HKDbac : Hid (Own Dbac W0.heap.size 9 1 (Value.slice ADbac (ks.length + 1) cDbac) (ks.length + 1) ((sc ks).take m ++ [Value.string k] ++ (sc ks).drop m)) := Lib.hid ho
    clear ho hb hf
    have HVDbac := Lib.hid (HVDba.out.fr HFDbac.out (fun g hg hm => HPDba.out g hm hg))
    have HNDbac := Lib.hid (HNDba.out.fr HFDbac.out (fun g hn hm => own_apart HKDba.out HNDba.out (by decide) g hm hn))
    have HRDbac := Lib.hid (HFDbac.out.blk HRDba.out (fun e => own_ne HKDba.out HRDba.out (by decide) e))
    have H6Dbac := Lib.hid (HFDbac.out.blk H6Dba.out (fun e => own_ne HKDba.out H6Dba.out (by decide) e))
    have HLDbac : Hid (Below w.heap.size w Dbac) := HLDba.out.trans (HFDbac.out.below HLDba.out.size fun g _ hg => by have h1 := (HKDba.out.lt g hg).1; have h2 := HSz.out; omega)
    have HSDbac : Hid (W0.heap.size ≤ Dbac.heap.size) := Nat.le_trans HSDba.out HFDbac.out.size
    have HBDbac10 := Lib.hid (HFDbac.out.blk HBDba10.out HQDbk.out)
    have HPDbac : Hid (∀ g, (Value.slice ADbac (ks.length + 1) cDbac).ownBlock = some g → (Value.slice V1 vs.length vc).ownBlock ≠ some g) := fun g hk hv => by
      rcases HODbac.out with e | e
      · rw [e] at hk; exact HPDba.out g hk hv
      · rw [e] at hk
        injection hk with hk
        have := (HVDba.out.lt g hv).2
        omega
    dsimp only
    refine hK.out _ _ (fun _ _ => HRDbac.out) ?_
    clear hK K
    try simp only [Act.put, List.setIfInBounds_toArray, List.set_cons_zero, List.set_cons_succ]
    refine Held3.Ways.plain (i := 12) (oi := ?o13) ?v13 ?hi13 ?hs13 ?hf13 ?hr13 ?hQ13 ?hy13 (fun _ _ _ => id) ?rest13
    case hi13 => exact rfl
    case hs13 => kernel_rfl
    case hf13 => kernel_rfl
    case hr13 => kernel_rfl
    case hQ13 => exact fun _ _ _ h => h
    case hy13 =>
      refine .inl ⟨by rfl, fun W _ => ?_⟩
      go_simp
      try with_reducible rfl
    try simp only [Act.put, List.setIfInBounds_toArray, List.set_cons_zero, List.set_cons_succ]
    refine Held3.Ways.one (i := 11) (by rfl) (by kernel_rfl) (fun K hK => ?_)
    go_simp
    go_at_call 26
    refine (SlT.insert HVDbac.out (sc_one _) (show m ≤ vs.length by have := HV.out; omega) HBDbac10.out rfl (sc_one [v]) HQDbv.out (by have := HLEN.out; omega) HSDbac.out).mono ?_
    rintro e Dbacd ⟨v9, rfl, ho, hb, hf⟩
    obtain ⟨ADbacd, cDbacd, rfl, _⟩ := ho.slice_
    have HFDbacd := Lib.hid hf
    have HODbacd := Lib.hid hb
    have HVDbacd : Hid (Own Dbacd W0.heap.size 9 1 (Value.slice ADbacd (vs.length + 1) cDbacd) (vs.length + 1) ((sc vs).take m ++ [Value.string v] ++ (sc vs).drop m)) := Lib.hid ho
    clear ho hb hf
    have HKDbacd := Lib.hid (HKDbac.out.fr HFDbacd.out (fun g hg hm => HPDbac.out g hg hm))
    have HNDbacd := Lib.hid (HNDbac.out.fr HFDbacd.out (fun g hn hm => own_apart HVDbac.out HNDbac.out (by decide) g hm hn))
    have HRDbacd := Lib.hid (HFDbacd.out.blk HRDbac.out (fun e => own_ne HVDbac.out HRDbac.out (by decide) e))
    have H6Dbacd := Lib.hid (HFDbacd.out.blk H6Dbac.out (fun e => own_ne HVDbac.out H6Dbac.out (by decide) e))
    have HLDbacd : Hid (Below w.heap.size w Dbacd) := HLDbac.out.trans (HFDbacd.out.below HLDbac.out.size fun g _ hg => by have h1 := (HVDbac.out.lt g hg).1; have h2 := HSz.out; omega)
    have HSDbacd : Hid (W0.heap.size ≤ Dbacd.heap.size) := Nat.le_trans HSDbac.out HFDbacd.out.size
    have HPDbacd : Hid (∀ g, (Value.slice ADbac (ks.length + 1) cDbac).ownBlock = some g → (Value.slice ADbacd (vs.length + 1) cDbacd).ownBlock ≠ some g) := fun g hk hv => by
      rcases HODbacd.out with e | e
      · rw [e] at hv; exact HPDbac.out g hk hv
      · rw [e] at hv
        injection hv with hv
        have := (HKDbac.out.lt g hk).2
        omega
    dsimp only
    refine hK.out _ _ (fun _ _ => HRDbacd.out) ?_
    clear hK K
    try simp only [Act.put, List.setIfInBounds_toArray, List.set_cons_zero, List.set_cons_succ]
    refine Held3.Ways.one (i := 13) (by rfl) (by kernel_rfl) (fun K hK => ?_)
    obtain ⟨f0, f1, f2, f3, f4, f5, f6, f7, f8⟩ := row8_facts (HRDbacd.out)
    go_simp
    refine hK.out _ _ (fun h => absurd h (by decide)) ?_
    clear hK K
    try simp only [Act.put, List.setIfInBounds_toArray, List.set_cons_zero, List.set_cons_succ]
    refine Held3.Ways.plain (i := 14) (oi := ?o14) ?v14 ?hi14 ?hs14 ?hf14 ?hr14 ?hQ14 ?hy14 (fun _ _ _ => id) ?rest14
    case hi14 => exact rfl
    case hs14 => kernel_rfl
    case hf14 => kernel_rfl
    case hr14 => kernel_rfl
    case hQ14 => exact fun _ _ _ h => h
    case hy14 =>
      refine .inl ⟨by rfl, fun W _ => ?_⟩
      go_simp
      try with_reducible rfl
    try simp only [Act.put, List.setIfInBounds_toArray, List.set_cons_zero, List.set_cons_succ]
    refine Held3.Ways.one (i := 15) (by rfl) (by kernel_rfl) (fun K hK => ?_)
    go_simp
    refine hK.out _ _ (fun h => absurd h (by decide)) ?_
    clear hK K
    try simp only [Act.put, List.setIfInBounds_toArray, List.set_cons_zero, List.set_cons_succ]
    refine Held3.Ways.done (by kernel_rfl) ?_ _
    clear f0 f1 f2 f3 f4 f5 f6 f7 f8
    obtain ⟨Y, hY⟩ : ∃ Y, Y = ((Dbacd.setCell ⟨w.heap.size, 1, none⟩ (Value.slice ADbac (ks.length + 1) cDbac)).setCell ⟨w.heap.size, 2, none⟩ (Value.slice ADbacd (vs.length + 1) cDbacd)) := ⟨_, rfl⟩
    rw [← hY]
    have hkeep : ∀ g, g ≠ w.heap.size → Y.heap[g]? = Dbacd.heap[g]? := fun g hg => by rw [hY]; exact (Below.heap_setCell _ _ _ _ hg).trans (Below.heap_setCell _ _ _ _ hg)
    have HY3 : Hid (Y.heap[w.heap.size]? = some (.cells #[.int .i64 1, (Value.slice ADbac (ks.length + 1) cDbac), (Value.slice ADbacd (vs.length + 1) cDbacd), .slice N1 ns.length nc, .int .i64 0, .int .i64 0, .int .i64 0, .int .i64 0] 26 (0, 0))) := by
      rw [hY]
      have h9 := heap_setCell_same _ w.heap.size 2 _ _ (Value.slice ADbacd (vs.length + 1) cDbacd) (heap_setCell_same Dbacd w.heap.size 1 _ _ (Value.slice ADbac (ks.length + 1) cDbac) HRDbacd.out)
      exact Lib.hid (by simpa using h9)
    have HY6 : Hid (Y.heap[w.heap.size + 1]? = some (.cells #[.int .i64 0, .slice none 0 0, .slice none 0 0, .slice none 0 0, .int .i64 0, .int .i64 0, .int .i64 0, .int .i64 0] 26 (0, 0))) := Lib.hid ((hkeep _ (by omega)).trans H6Dbacd.out)
    have HYL : Hid (Below w.heap.size w Y) := by rw [hY]; exact below_set (below_set HLDbacd.out (Nat.le_refl _) _) (Nat.le_refl _) _
    have HYK := Lib.hid (HKDbacd.out.kept fun g hg => hkeep g (by have h1 := (HKDbacd.out.lt g hg).1; have h2 := HSz.out; omega))
    have HYV := Lib.hid (HVDbacd.out.kept fun g hg => hkeep g (by have h1 := (HVDbacd.out.lt g hg).1; have h2 := HSz.out; omega))
    have HYN := Lib.hid (HNDbacd.out.kept fun g hg => hkeep g (by have h1 := (HNDbacd.out.lt g hg).1; have h2 := HSz.out; omega))
    clear hY hkeep
    obtain ⟨f0, f1, f2, f3, f4, f5, f6, f7, f8⟩ := row8_facts (HY3.out)
    obtain ⟨z0, z1, z2, z3, z4, z5, z6, z7, z8⟩ := row8_facts (HY6.out)
    go_wp2_with fail
    clear f0 f1 f2 f3 f4 f5 f6 f7 f8 z0 z1 z2 z3 z4 z5 z6 z7 z8
    refine bodyPost_ret (results_cell_row rfl _ _ (w.heap.size + 1) 26 _ (0, 0) _ rfl (row8_set HY6.out _ _ _ _ _ _ _ _) Try.underlying26 rfl rfl) rfl ?_
    have hfin : ∀ g, W0.heap.size ≤ g → (((((((((Y.setCell ⟨(w.heap.size + 1), 0, none⟩ (.int .i64 1)).setCell ⟨(w.heap.size + 1), 1, none⟩ ((Value.slice ADbac (ks.length + 1) cDbac))).setCell ⟨(w.heap.size + 1), 2, none⟩ ((Value.slice ADbacd (vs.length + 1) cDbacd))).setCell ⟨(w.heap.size + 1), 3, none⟩ (.slice N1 ns.length nc)).setCell ⟨(w.heap.size + 1), 4, none⟩ (.int .i64 0)).setCell ⟨(w.heap.size + 1), 5, none⟩ (.int .i64 0)).setCell ⟨(w.heap.size + 1), 6, none⟩ (.int .i64 0)).setCell ⟨(w.heap.size + 1), 7, none⟩ (.int .i64 0))).heap[g]? = Y.heap[g]? := fun g hg => set8_ne _ (by have := HSz.out; omega) _ _ _ _ _ _ _ _
    have hsz := HSz.out
    obtain ⟨l1, l2, l3⟩ := HLEN.out
    have hvl := HV.out
    have ek : (sc ks).take m ++ [Value.string k] ++ (sc ks).drop m = sc (ks.take m ++ k :: ks.drop m) := by simp [sc, List.map_take, List.map_drop]
    have ev : (sc vs).take m ++ [Value.string v] ++ (sc vs).drop m = sc (vs.take m ++ v :: vs.drop m) := by simp [sc, List.map_take, List.map_drop]
    have nk : (ks.take m ++ k :: ks.drop m).length = ks.length + 1 := by simp; omega
    have nv : (vs.take m ++ v :: vs.drop m).length = vs.length + 1 := by simp; omega
    have hK := HYK.out
    have hV := HYV.out
    rw [ek, ← nk] at hK
    rw [ev, ← nv] at hV
    rw [← nk, ← nv] at hfin ⊢
    refine ⟨_, _, _, rfl, ⟨?_, ?_, ?_, ?_, ?_⟩, set8_below HYL.out (Nat.le_succ _) _ _ _ _ _ _ _ _⟩
    · rw [← HM.out]
      exact (hK.base_ (base' := w.heap.size) fun g hg => by have := (hK.lt g hg).1; omega).kept fun g hg => hfin g (hK.lt g hg).1
    · rw [← HM.out]
      exact (hV.base_ (base' := w.heap.size) fun g hg => by have := (hV.lt g hg).1; omega).kept fun g hg => hfin g (hV.lt g hg).1
    · exact (HYN.out.base_ (base' := w.heap.size) fun g hg => by have := (HYN.out.lt g hg).1; omega).kept fun g hg => hfin g (HYN.out.lt g hg).1
    · rw [← HM.out]
      dsimp only
      rw [nk, nv]; exact ⟨by omega, by omega, l3⟩
    · rw [nk, nv]; exact HPDbacd.out
set_option maxHeartbeats 2000000 in
set_option maxRecDepth 100000 in
theorem drop_not {kv vv nv : Value} {ks vs : List S} {ns : List Int} (w : World) (h : PgR w kv vv nv ⟨1, ks, vs, ns⟩) (hr : Rise (kp ks)) (hv : vs.length = ks.length) (hl : ks.length ≤ 50) (k : S) (hh : here (kp ks) k = false) :
    Calls Try.prog 20 #[pv 1 kv vv nv, .string k] w fun e w' => ∃ kv' vv' nv', e = .returned (pv 1 kv' vv' nv') ∧ PgO w' w.heap.size kv' vv' nv' ⟨1, ks, vs, ns⟩ ∧ Below w.heap.size w w' := by
  obtain ⟨Ak, ck, Av, cv, An, cn, rfl, rfl, rfl⟩ := h.forms
  have hml := pos_le (kp ks) k
  rw [kp_len] at hml
  obtain ⟨m, hm⟩ : ∃ m, m = pos (kp ks) k := ⟨_, rfl⟩
  rw [← hm] at hml
  have HAT : Hid (∀ X, Below w.heap.size w X → Calls Try.prog 17 #[.agg #[.int .i64 1, .slice Ak ks.length ck, .slice Av vs.length cv, .slice An ns.length cn, .int .i64 0, .int .i64 0, .int .i64 0, .int .i64 0], .string k] X fun e w' => e = .returned (.tuple #[.int .i64 m, .bool false]) ∧ Below X.heap.size X w') := fun X hb => (at_any X (h.up hb) hr k).mono fun e w' he => ⟨he.1.trans (by
    have e1 : atZ ⟨1, ks, vs, ns⟩ k = m := by unfold atZ; rw [if_neg (fun h => absurd (show (1 : Int) = 2 from h.1) (by decide)), hm]
    rw [e1]
    show _ = _
    rw [hh]), he.2⟩
  have HC : Hid (∀ X, Below w.heap.size w X → Calls Try.prog 11 #[.agg #[.int .i64 1, .slice Ak ks.length ck, .slice Av vs.length cv, .slice An ns.length cn, .int .i64 0, .int .i64 0, .int .i64 0, .int .i64 0]] X fun e w' => ∃ K1 kc V1 vc N1 nc, e = .returned (.agg #[.int .i64 1, .slice K1 ks.length kc, .slice V1 vs.length vc, .slice N1 ns.length nc, .int .i64 0, .int .i64 0, .int .i64 0, .int .i64 0]) ∧ PgO w' X.heap.size (.slice K1 ks.length kc) (.slice V1 vs.length vc) (.slice N1 ns.length nc) ⟨1, ks, vs, ns⟩ ∧ Below X.heap.size X w') := fun X hb => (clone_any X (h.up hb)).mono fun e w' he => by
    obtain ⟨kv', vv', nv', e1, ho, hb'⟩ := he
    obtain ⟨K1, kc, V1, vc, N1, nc, q1, q2, q3⟩ := ho.rd.forms
    subst q1 q2 q3
    exact ⟨_, _, _, _, _, _, e1, ho, hb'⟩
  have HLEN := Lib.hid h.lens
  have HR := Lib.hid hr
  have HH := Lib.hid hh
  have HM := Lib.hid hm
  have HV := Lib.hid hv
  clear h hr hh hm hv
  unfold pv at *
  dsimp only at *
  go_enter Try.func20, Try.ntmps20
  go_wp2_with fail
  obtain ⟨W0, hW0⟩ : ∃ W0, W0 = (w.alloc (.cells #[.int .i64 1, .slice Ak ks.length ck, .slice Av vs.length cv, .slice An ns.length cn, .int .i64 0, .int .i64 0, .int .i64 0, .int .i64 0] 26)).alloc (.cells #[.int .i64 0, .slice none 0 0, .slice none 0 0, .slice none 0 0, .int .i64 0, .int .i64 0, .int .i64 0, .int .i64 0] 26) := ⟨_, rfl⟩
  rw [← hW0]
  have HSz : Hid (W0.heap.size = w.heap.size + 2) := Lib.hid (by rw [hW0]; simp)
  have HBw : Hid (Below w.heap.size w W0) := by rw [hW0]; exact ((Below.refl _ w).alloc (Nat.le_refl _) _).alloc (by simp) _
  have HS3 : Hid (∀ X, Below W0.heap.size W0 X → X.heap[w.heap.size]? = some (.cells #[.int .i64 1, .slice Ak ks.length ck, .slice Av vs.length cv, .slice An ns.length cn, .int .i64 0, .int .i64 0, .int .i64 0, .int .i64 0] 26 (0, 0))) := fun X hb => (hb.block _ (by rw [HSz.out]; omega)).trans (by rw [hW0, Below.heap_alloc _ _ _ (by simp)]; exact heap_alloc_new w _)
  have HS6 : Hid (∀ X, Below W0.heap.size W0 X → X.heap[w.heap.size + 1]? = some (.cells #[.int .i64 0, .slice none 0 0, .slice none 0 0, .slice none 0 0, .int .i64 0, .int .i64 0, .int .i64 0, .int .i64 0] 26 (0, 0))) := fun X hb => (hb.block _ (by rw [HSz.out]; omega)).trans (by
    rw [hW0]
    have h9 := heap_alloc_new (w.alloc (.cells #[.int .i64 1, .slice Ak ks.length ck, .slice Av vs.length cv, .slice An ns.length cn, .int .i64 0, .int .i64 0, .int .i64 0, .int .i64 0] 26)) (.cells #[.int .i64 0, .slice none 0 0, .slice none 0 0, .slice none 0 0, .int .i64 0, .int .i64 0, .int .i64 0, .int .i64 0] 26)
    rw [World.size_alloc] at h9
    exact h9)
  clear hW0
  refine (HAT.out W0 HBw.out).mono ?_
  rintro e W1 ⟨rfl, hb⟩
  have HB1 := Lib.hid hb
  clear hb
  obtain ⟨f0, f1, f2, f3, f4, f5, f6, f7, f8⟩ := row8_facts (HS3.out W1 HB1.out)
  go_wp2_with fail
  refine (HC.out W1 (HBw.out.trans (HB1.out.mono HBw.out.size))).mono ?_
  rintro e W2 ⟨K1, kc, V1, vc, N1, nc, rfl, ho, hb⟩
  have HO := Lib.hid (ho.base_ HB1.out.size)
  have HB2 := Lib.hid (HB1.out.trans (hb.mono HB1.out.size))
  clear ho hb
  clear f0 f1 f2 f3 f4 f5 f6 f7 f8
  obtain ⟨f0, f1, f2, f3, f4, f5, f6, f7, f8⟩ := row8_facts (HS3.out W2 HB2.out)
  go_upto_region 5 with fail
  clear f0 f1 f2 f3 f4 f5 f6 f7 f8
  obtain ⟨X, hX⟩ : ∃ X, X = ((((((((W2.setCell ⟨w.heap.size, 0, none⟩ (.int .i64 1)).setCell ⟨w.heap.size, 1, none⟩ (.slice K1 ks.length kc)).setCell ⟨w.heap.size, 2, none⟩ (.slice V1 vs.length vc)).setCell ⟨w.heap.size, 3, none⟩ (.slice N1 ns.length nc)).setCell ⟨w.heap.size, 4, none⟩ (.int .i64 0)).setCell ⟨w.heap.size, 5, none⟩ (.int .i64 0)).setCell ⟨w.heap.size, 6, none⟩ (.int .i64 0)).setCell ⟨w.heap.size, 7, none⟩ (.int .i64 0)) := ⟨_, rfl⟩
  rw [← hX]
  have HX3 : Hid (X.heap[w.heap.size]? = some (.cells #[.int .i64 1, .slice K1 ks.length kc, .slice V1 vs.length vc, .slice N1 ns.length nc, .int .i64 0, .int .i64 0, .int .i64 0, .int .i64 0] 26 (0, 0))) := by rw [hX]; exact row8_set (HS3.out W2 HB2.out) _ _ _ _ _ _ _ _
  have HKX : Hid (∀ g, g ≠ w.heap.size → X.heap[g]? = W2.heap[g]?) := fun g hg => by rw [hX]; exact set8_ne _ hg _ _ _ _ _ _ _ _
  have HX6 : Hid (X.heap[w.heap.size + 1]? = some (.cells #[.int .i64 0, .slice none 0 0, .slice none 0 0, .slice none 0 0, .int .i64 0, .int .i64 0, .int .i64 0, .int .i64 0] 26 (0, 0))) := Lib.hid ((HKX.out _ (by omega)).trans (HS6.out W2 HB2.out))
  have HXO : Hid (PgO X W0.heap.size (.slice K1 ks.length kc) (.slice V1 vs.length vc) (.slice N1 ns.length nc) ⟨1, ks, vs, ns⟩) := Lib.hid (HO.out.kept fun g hg => HKX.out g (by have := HSz.out; omega))
  have HXL : Hid (Below w.heap.size w X) := by rw [hX]; exact set8_below (HBw.out.trans (HB2.out.mono (by have := HSz.out; omega))) (Nat.le_refl _) _ _ _ _ _ _ _ _
  have HXS : Hid (W0.heap.size ≤ X.heap.size) := by rw [hX]; exact Lib.hid (by have := HB2.out.size; simpa [World.setCell] using this)
  clear hX
  have HY3 := HX3
  have HY6 := HX6
  have HYL := HXL
  obtain ⟨f0, f1, f2, f3, f4, f5, f6, f7, f8⟩ := row8_facts (HY3.out)
  obtain ⟨z0, z1, z2, z3, z4, z5, z6, z7, z8⟩ := row8_facts (HY6.out)
  go_wp2_with fail
  clear f0 f1 f2 f3 f4 f5 f6 f7 f8 z0 z1 z2 z3 z4 z5 z6 z7 z8
  refine bodyPost_ret (results_cell_row rfl _ _ (w.heap.size + 1) 26 _ (0, 0) _ rfl (row8_set HY6.out _ _ _ _ _ _ _ _) Try.underlying26 rfl rfl) rfl ?_
  have hfin : ∀ g, W0.heap.size ≤ g → (((((((((X.setCell ⟨(w.heap.size + 1), 0, none⟩ (.int .i64 1)).setCell ⟨(w.heap.size + 1), 1, none⟩ (.slice K1 ks.length kc)).setCell ⟨(w.heap.size + 1), 2, none⟩ (.slice V1 vs.length vc)).setCell ⟨(w.heap.size + 1), 3, none⟩ (.slice N1 ns.length nc)).setCell ⟨(w.heap.size + 1), 4, none⟩ (.int .i64 0)).setCell ⟨(w.heap.size + 1), 5, none⟩ (.int .i64 0)).setCell ⟨(w.heap.size + 1), 6, none⟩ (.int .i64 0)).setCell ⟨(w.heap.size + 1), 7, none⟩ (.int .i64 0))).heap[g]? = X.heap[g]? := fun g hg => set8_ne _ (by have := HSz.out; omega) _ _ _ _ _ _ _ _
  have hsz := HSz.out
  refine ⟨_, _, _, rfl, ⟨?_, ?_, ?_, HLEN.out, HXO.out.apart⟩, set8_below HYL.out (Nat.le_succ _) _ _ _ _ _ _ _ _⟩
  · exact (HXO.out.keys.base_ (base' := w.heap.size) fun g hg => by have := (HXO.out.keys.lt g hg).1; omega).kept fun g hg => hfin g (HXO.out.keys.lt g hg).1
  · exact (HXO.out.vals.base_ (base' := w.heap.size) fun g hg => by have := (HXO.out.vals.lt g hg).1; omega).kept fun g hg => hfin g (HXO.out.vals.lt g hg).1
  · exact (HXO.out.kids.base_ (base' := w.heap.size) fun g hg => by have := (HXO.out.kids.lt g hg).1; omega).kept fun g hg => hfin g (HXO.out.kids.lt g hg).1
set_option maxHeartbeats 2000000 in
set_option maxRecDepth 100000 in
theorem drop_there {kv vv nv : Value} {ks vs : List S} {ns : List Int} (w : World) (h : PgR w kv vv nv ⟨1, ks, vs, ns⟩) (hr : Rise (kp ks)) (hv : vs.length = ks.length) (hl : ks.length ≤ 50) (k : S) (hh : here (kp ks) k = true) :
    Calls Try.prog 20 #[pv 1 kv vv nv, .string k] w fun e w' => ∃ kv' vv' nv', e = .returned (pv 1 kv' vv' nv') ∧ PgO w' w.heap.size kv' vv' nv' ⟨1, ks.take (pos (kp ks) k) ++ ks.drop (pos (kp ks) k + 1), vs.take (pos (kp ks) k) ++ vs.drop (pos (kp ks) k + 1), ns⟩ ∧ Below w.heap.size w w' := by
  obtain ⟨Ak, ck, Av, cv, An, cn, rfl, rfl, rfl⟩ := h.forms
  have hml := pos_le (kp ks) k
  rw [kp_len] at hml
  obtain ⟨m, hm⟩ : ∃ m, m = pos (kp ks) k := ⟨_, rfl⟩
  rw [← hm] at hml
  have HAT : Hid (∀ X, Below w.heap.size w X → Calls Try.prog 17 #[.agg #[.int .i64 1, .slice Ak ks.length ck, .slice Av vs.length cv, .slice An ns.length cn, .int .i64 0, .int .i64 0, .int .i64 0, .int .i64 0], .string k] X fun e w' => e = .returned (.tuple #[.int .i64 m, .bool true]) ∧ Below X.heap.size X w') := fun X hb => (at_any X (h.up hb) hr k).mono fun e w' he => ⟨he.1.trans (by
    have e1 : atZ ⟨1, ks, vs, ns⟩ k = m := by unfold atZ; rw [if_neg (fun h => absurd (show (1 : Int) = 2 from h.1) (by decide)), hm]
    rw [e1]
    show _ = _
    rw [hh]), he.2⟩
  have HC : Hid (∀ X, Below w.heap.size w X → Calls Try.prog 11 #[.agg #[.int .i64 1, .slice Ak ks.length ck, .slice Av vs.length cv, .slice An ns.length cn, .int .i64 0, .int .i64 0, .int .i64 0, .int .i64 0]] X fun e w' => ∃ K1 kc V1 vc N1 nc, e = .returned (.agg #[.int .i64 1, .slice K1 ks.length kc, .slice V1 vs.length vc, .slice N1 ns.length nc, .int .i64 0, .int .i64 0, .int .i64 0, .int .i64 0]) ∧ PgO w' X.heap.size (.slice K1 ks.length kc) (.slice V1 vs.length vc) (.slice N1 ns.length nc) ⟨1, ks, vs, ns⟩ ∧ Below X.heap.size X w') := fun X hb => (clone_any X (h.up hb)).mono fun e w' he => by
    obtain ⟨kv', vv', nv', e1, ho, hb'⟩ := he
    obtain ⟨K1, kc, V1, vc, N1, nc, q1, q2, q3⟩ := ho.rd.forms
    subst q1 q2 q3
    exact ⟨_, _, _, _, _, _, e1, ho, hb'⟩
  have HLEN := Lib.hid h.lens
  have HR := Lib.hid hr
  have HH := Lib.hid hh
  have HM := Lib.hid hm
  have HV := Lib.hid hv
  clear h hr hh hm hv
  unfold pv at *
  dsimp only at *
  go_enter Try.func20, Try.ntmps20
  go_wp2_with fail
  obtain ⟨W0, hW0⟩ : ∃ W0, W0 = (w.alloc (.cells #[.int .i64 1, .slice Ak ks.length ck, .slice Av vs.length cv, .slice An ns.length cn, .int .i64 0, .int .i64 0, .int .i64 0, .int .i64 0] 26)).alloc (.cells #[.int .i64 0, .slice none 0 0, .slice none 0 0, .slice none 0 0, .int .i64 0, .int .i64 0, .int .i64 0, .int .i64 0] 26) := ⟨_, rfl⟩
  rw [← hW0]
  have HSz : Hid (W0.heap.size = w.heap.size + 2) := Lib.hid (by rw [hW0]; simp)
  have HBw : Hid (Below w.heap.size w W0) := by rw [hW0]; exact ((Below.refl _ w).alloc (Nat.le_refl _) _).alloc (by simp) _
  have HS3 : Hid (∀ X, Below W0.heap.size W0 X → X.heap[w.heap.size]? = some (.cells #[.int .i64 1, .slice Ak ks.length ck, .slice Av vs.length cv, .slice An ns.length cn, .int .i64 0, .int .i64 0, .int .i64 0, .int .i64 0] 26 (0, 0))) := fun X hb => (hb.block _ (by rw [HSz.out]; omega)).trans (by rw [hW0, Below.heap_alloc _ _ _ (by simp)]; exact heap_alloc_new w _)
  have HS6 : Hid (∀ X, Below W0.heap.size W0 X → X.heap[w.heap.size + 1]? = some (.cells #[.int .i64 0, .slice none 0 0, .slice none 0 0, .slice none 0 0, .int .i64 0, .int .i64 0, .int .i64 0, .int .i64 0] 26 (0, 0))) := fun X hb => (hb.block _ (by rw [HSz.out]; omega)).trans (by
    rw [hW0]
    have h9 := heap_alloc_new (w.alloc (.cells #[.int .i64 1, .slice Ak ks.length ck, .slice Av vs.length cv, .slice An ns.length cn, .int .i64 0, .int .i64 0, .int .i64 0, .int .i64 0] 26)) (.cells #[.int .i64 0, .slice none 0 0, .slice none 0 0, .slice none 0 0, .int .i64 0, .int .i64 0, .int .i64 0, .int .i64 0] 26)
    rw [World.size_alloc] at h9
    exact h9)
  clear hW0
  refine (HAT.out W0 HBw.out).mono ?_
  rintro e W1 ⟨rfl, hb⟩
  have HB1 := Lib.hid hb
  clear hb
  obtain ⟨f0, f1, f2, f3, f4, f5, f6, f7, f8⟩ := row8_facts (HS3.out W1 HB1.out)
  go_wp2_with fail
  refine (HC.out W1 (HBw.out.trans (HB1.out.mono HBw.out.size))).mono ?_
  rintro e W2 ⟨K1, kc, V1, vc, N1, nc, rfl, ho, hb⟩
  have HO := Lib.hid (ho.base_ HB1.out.size)
  have HB2 := Lib.hid (HB1.out.trans (hb.mono HB1.out.size))
  clear ho hb
  clear f0 f1 f2 f3 f4 f5 f6 f7 f8
  obtain ⟨f0, f1, f2, f3, f4, f5, f6, f7, f8⟩ := row8_facts (HS3.out W2 HB2.out)
  have hmk : m < ks.length := by
    have h9 := here_pos_lt HR.out HH.out
    rw [kp_len, ← HM.out] at h9
    exact h9
  have HMK := Lib.hid hmk
  clear hmk
  have m0 : (0 : Int) ≤ (m : Int) := by omega
  have ew : IntKind.i64.wrap ((m : Int) + 1) = (m : Int) + 1 := by rw [IntKind.wrap_i64]; omega
  go_upto_region 4 with fail
  clear f0 f1 f2 f3 f4 f5 f6 f7 f8
  obtain ⟨X, hX⟩ : ∃ X, X = ((((((((W2.setCell ⟨w.heap.size, 0, none⟩ (.int .i64 1)).setCell ⟨w.heap.size, 1, none⟩ (.slice K1 ks.length kc)).setCell ⟨w.heap.size, 2, none⟩ (.slice V1 vs.length vc)).setCell ⟨w.heap.size, 3, none⟩ (.slice N1 ns.length nc)).setCell ⟨w.heap.size, 4, none⟩ (.int .i64 0)).setCell ⟨w.heap.size, 5, none⟩ (.int .i64 0)).setCell ⟨w.heap.size, 6, none⟩ (.int .i64 0)).setCell ⟨w.heap.size, 7, none⟩ (.int .i64 0)) := ⟨_, rfl⟩
  rw [← hX]
  have HX3 : Hid (X.heap[w.heap.size]? = some (.cells #[.int .i64 1, .slice K1 ks.length kc, .slice V1 vs.length vc, .slice N1 ns.length nc, .int .i64 0, .int .i64 0, .int .i64 0, .int .i64 0] 26 (0, 0))) := by rw [hX]; exact row8_set (HS3.out W2 HB2.out) _ _ _ _ _ _ _ _
  have HKX : Hid (∀ g, g ≠ w.heap.size → X.heap[g]? = W2.heap[g]?) := fun g hg => by rw [hX]; exact set8_ne _ hg _ _ _ _ _ _ _ _
  have HX6 : Hid (X.heap[w.heap.size + 1]? = some (.cells #[.int .i64 0, .slice none 0 0, .slice none 0 0, .slice none 0 0, .int .i64 0, .int .i64 0, .int .i64 0, .int .i64 0] 26 (0, 0))) := Lib.hid ((HKX.out _ (by omega)).trans (HS6.out W2 HB2.out))
  have HXO : Hid (PgO X W0.heap.size (.slice K1 ks.length kc) (.slice V1 vs.length vc) (.slice N1 ns.length nc) ⟨1, ks, vs, ns⟩) := Lib.hid (HO.out.kept fun g hg => HKX.out g (by have := HSz.out; omega))
  have HXL : Hid (Below w.heap.size w X) := by rw [hX]; exact set8_below (HBw.out.trans (HB2.out.mono (by have := HSz.out; omega))) (Nat.le_refl _) _ _ _ _ _ _ _ _
  have HXS : Hid (W0.heap.size ≤ X.heap.size) := by rw [hX]; exact Lib.hid (by have := HB2.out.size; simpa [World.setCell] using this)
  clear hX
  refine Held3.ways_start (fun i W W' => decide (i ≠ 13 ∧ i ≠ 15) = true → (fun W : World => W.heap[w.heap.size]? = some (.cells #[.int .i64 1, .slice K1 ks.length kc, .slice V1 vs.length vc, .slice N1 ns.length nc, .int .i64 0, .int .i64 0, .int .i64 0, .int .i64 0] 26 (0, 0))) W → (fun W : World => W.heap[w.heap.size]? = some (.cells #[.int .i64 1, .slice K1 ks.length kc, .slice V1 vs.length vc, .slice N1 ns.length nc, .int .i64 0, .int .i64 0, .int .i64 0, .int .i64 0] 26 (0, 0))) W') (by kernel_rfl) ?_
  obtain ⟨D, hD⟩ : ∃ D, D = X.drew := ⟨_, rfl⟩
  rw [← hD]
  have HRD : Hid (D.heap[w.heap.size]? = some (.cells #[.int .i64 1, .slice K1 ks.length kc, .slice V1 vs.length vc, .slice N1 ns.length nc, .int .i64 0, .int .i64 0, .int .i64 0, .int .i64 0] 26 (0, 0))) := by rw [hD]; exact HX3
  have H6D : Hid (D.heap[w.heap.size + 1]? = some (.cells #[.int .i64 0, .slice none 0 0, .slice none 0 0, .slice none 0 0, .int .i64 0, .int .i64 0, .int .i64 0, .int .i64 0] 26 (0, 0))) := by rw [hD]; exact HX6
  have HKD : Hid (Own D W0.heap.size 9 1 (.slice K1 ks.length kc) ks.length (sc ks)) := by rw [hD]; exact Lib.hid HXO.out.keys.drew
  have HVD : Hid (Own D W0.heap.size 9 1 (.slice V1 vs.length vc) vs.length (sc vs)) := by rw [hD]; exact Lib.hid HXO.out.vals.drew
  have HND : Hid (Own D W0.heap.size 3 1 (.slice N1 ns.length nc) ns.length (ic ns)) := by rw [hD]; exact Lib.hid HXO.out.kids.drew
  have HPD : Hid (∀ g, (Value.slice K1 ks.length kc).ownBlock = some g → (Value.slice V1 vs.length vc).ownBlock ≠ some g) := HXO.out.apart
  have HLD : Hid (Below w.heap.size w D) := by rw [hD]; exact HXL.out.drew
  have HSD : Hid (W0.heap.size ≤ D.heap.size) := by rw [hD]; exact HXS
  clear hD
  have HSX := HRD.out
  refine Held3.Ways.plain (i := 0) (oi := ?o15) ?v15 ?hi15 ?hs15 ?hf15 ?hr15 ?hQ15 ?hy15 (fun _ _ _ => id) ?rest15
  case hi15 => exact rfl
  case hs15 => kernel_rfl
  case hf15 => kernel_rfl
  case hr15 => kernel_rfl
  case hQ15 => exact fun _ _ _ h => h
  case hy15 =>
    refine .inl ⟨by rfl, fun W _ => ?_⟩
    go_simp
    try with_reducible rfl
  try simp only [Act.put, List.setIfInBounds_toArray, List.set_cons_zero, List.set_cons_succ]
  refine Held3.Ways.take (i := 1) (oi := ?o16) (fun W : World => W.heap[w.heap.size]? = some (.cells #[.int .i64 1, .slice K1 ks.length kc, .slice V1 vs.length vc, .slice N1 ns.length nc, .int .i64 0, .int .i64 0, .int .i64 0, .int .i64 0] 26 (0, 0))) (fun i => decide (i ≠ 13 ∧ i ≠ 15)) ?v16 ?hi16 ?hs16 ?hf16 ?hlw16 ?hr16 ?hQ16 HSX ?hy16 (fun _ _ _ h => h) (fun _ _ _ => id) ?rest16
  case hi16 => exact rfl
  case hs16 => kernel_rfl
  case hf16 => kernel_rfl
  case hlw16 => kernel_rfl
  case hr16 => kernel_rfl
  case hQ16 => exact fun _ _ _ h => h
  case hy16 =>
    refine .inl ⟨by rfl, fun W hW => ?_⟩
    obtain ⟨f0, f1, f2, f3, f4, f5, f6, f7, f8⟩ := row8_facts (hW)
    go_simp
    try with_reducible rfl
  try simp only [Act.put, List.setIfInBounds_toArray, List.set_cons_zero, List.set_cons_succ]
  refine Held3.Ways.plain (i := 2) (oi := ?o17) ?v17 ?hi17 ?hs17 ?hf17 ?hr17 ?hQ17 ?hy17 (fun _ _ _ => id) ?rest17
  case hi17 => exact rfl
  case hs17 => kernel_rfl
  case hf17 => kernel_rfl
  case hr17 => kernel_rfl
  case hQ17 => exact fun _ _ _ h => h
  case hy17 =>
    refine .inl ⟨by rfl, fun W _ => ?_⟩
    go_simp
    try with_reducible rfl
  try simp only [Act.put, List.setIfInBounds_toArray, List.set_cons_zero, List.set_cons_succ]
  refine Held3.Ways.plain (i := 3) (oi := ?o18) ?v18 ?hi18 ?hs18 ?hf18 ?hr18 ?hQ18 ?hy18 (fun _ _ _ => id) ?rest18
  case hi18 => exact rfl
  case hs18 => kernel_rfl
  case hf18 => kernel_rfl
  case hr18 => kernel_rfl
  case hQ18 => exact fun _ _ _ h => h
  case hy18 =>
    refine .inl ⟨by rfl, fun W _ => ?_⟩
    go_simp
    try with_reducible rfl
  try simp only [Act.put, List.setIfInBounds_toArray, List.set_cons_zero, List.set_cons_succ]
  refine Held3.Ways.plain (i := 4) (oi := ?o19) ?v19 ?hi19 ?hs19 ?hf19 ?hr19 ?hQ19 ?hy19 (fun _ _ _ => id) ?rest19
  case hi19 => exact rfl
  case hs19 => kernel_rfl
  case hf19 => kernel_rfl
  case hr19 => kernel_rfl
  case hQ19 => exact fun _ _ _ h => h
  case hy19 =>
    refine .inl ⟨by rfl, fun W _ => ?_⟩
    go_simp
    try with_reducible rfl
  try simp only [Act.put, List.setIfInBounds_toArray, List.set_cons_zero, List.set_cons_succ]
  refine Held3.Ways.plain (i := 6) (oi := ?o20) ?v20 ?hi20 ?hs20 ?hf20 ?hr20 ?hQ20 ?hy20 (fun _ _ _ => id) ?rest20
  case hi20 => exact rfl
  case hs20 => kernel_rfl
  case hf20 => kernel_rfl
  case hr20 => kernel_rfl
  case hQ20 => exact fun _ _ _ h => h
  case hy20 =>
    refine .inl ⟨by rfl, fun W _ => ?_⟩
    go_simp
    try with_reducible rfl
  try simp only [Act.put, List.setIfInBounds_toArray, List.set_cons_zero, List.set_cons_succ]
  refine Held3.Ways.take (i := 7) (oi := ?o21) (fun W : World => W.heap[w.heap.size]? = some (.cells #[.int .i64 1, .slice K1 ks.length kc, .slice V1 vs.length vc, .slice N1 ns.length nc, .int .i64 0, .int .i64 0, .int .i64 0, .int .i64 0] 26 (0, 0))) (fun i => decide (i ≠ 13 ∧ i ≠ 15)) ?v21 ?hi21 ?hs21 ?hf21 ?hlw21 ?hr21 ?hQ21 HSX ?hy21 (fun _ _ _ h => h) (fun _ _ _ => id) ?rest21
  case hi21 => exact rfl
  case hs21 => kernel_rfl
  case hf21 => kernel_rfl
  case hlw21 => kernel_rfl
  case hr21 => kernel_rfl
  case hQ21 => exact fun _ _ _ h => h
  case hy21 =>
    refine .inl ⟨by rfl, fun W hW => ?_⟩
    obtain ⟨f0, f1, f2, f3, f4, f5, f6, f7, f8⟩ := row8_facts (hW)
    go_simp
    try with_reducible rfl
  try simp only [Act.put, List.setIfInBounds_toArray, List.set_cons_zero, List.set_cons_succ]
  refine Held3.Ways.plain (i := 8) (oi := ?o22) ?v22 ?hi22 ?hs22 ?hf22 ?hr22 ?hQ22 ?hy22 (fun _ _ _ => id) ?rest22
  case hi22 => exact rfl
  case hs22 => kernel_rfl
  case hf22 => kernel_rfl
  case hr22 => kernel_rfl
  case hQ22 => exact fun _ _ _ h => h
  case hy22 =>
    refine .inl ⟨by rfl, fun W _ => ?_⟩
    go_simp
    try with_reducible rfl
  try simp only [Act.put, List.setIfInBounds_toArray, List.set_cons_zero, List.set_cons_succ]
  refine Held3.Ways.plain (i := 9) (oi := ?o23) ?v23 ?hi23 ?hs23 ?hf23 ?hr23 ?hQ23 ?hy23 (fun _ _ _ => id) ?rest23
  case hi23 => exact rfl
  case hs23 => kernel_rfl
  case hf23 => kernel_rfl
  case hr23 => kernel_rfl
  case hQ23 => exact fun _ _ _ h => h
  case hy23 =>
    refine .inl ⟨by rfl, fun W _ => ?_⟩
    go_simp
    try with_reducible rfl
  try simp only [Act.put, List.setIfInBounds_toArray, List.set_cons_zero, List.set_cons_succ]
  refine Held3.Ways.plain (i := 10) (oi := ?o24) ?v24 ?hi24 ?hs24 ?hf24 ?hr24 ?hQ24 ?hy24 (fun _ _ _ => id) ?rest24
  case hi24 => exact rfl
  case hs24 => kernel_rfl
  case hf24 => kernel_rfl
  case hr24 => kernel_rfl
  case hQ24 => exact fun _ _ _ h => h
  case hy24 =>
    refine .inl ⟨by rfl, fun W _ => ?_⟩
    go_simp
    try with_reducible rfl
  try simp only [Act.put, List.setIfInBounds_toArray, List.set_cons_zero, List.set_cons_succ]
  refine Held3.Ways.one (i := 5) (by rfl) (by kernel_rfl) (fun K hK => ?_)
  go_simp
  go_at_call 27
  refine (SlS.delete HKD.out (sc_one _) m (by have := HMK.out; omega)).mono ?_
  rintro e Dc ⟨v9, rfl, ho, hb', hf⟩
  have hb : v9.ownBlock = (Value.slice K1 ks.length kc).ownBlock ∨ v9.ownBlock = some D.heap.size := .inl hb'
  clear hb'
  simp only [Nat.mul_one] at ho
  obtain ⟨ADc, cDc, rfl, _⟩ := ho.slice_
  have HFDc := Lib.hid hf
  have HODc := Lib.hid hb
  have HKDc : Hid (Own Dc W0.heap.size 9 1 (Value.slice ADc (ks.length - 1) cDc) (ks.length - 1) ((sc ks).take m ++ (sc ks).drop (m + 1))) := Lib.hid ho
  clear ho hb hf
  have HVDc := Lib.hid (HVD.out.fr HFDc.out (fun g hg hm => HPD.out g hm hg))
  have HNDc := Lib.hid (HND.out.fr HFDc.out (fun g hn hm => own_apart HKD.out HND.out (by decide) g hm hn))
  have HRDc := Lib.hid (HFDc.out.blk HRD.out (fun e => own_ne HKD.out HRD.out (by decide) e))
  have H6Dc := Lib.hid (HFDc.out.blk H6D.out (fun e => own_ne HKD.out H6D.out (by decide) e))
  have HLDc : Hid (Below w.heap.size w Dc) := HLD.out.trans (HFDc.out.below HLD.out.size fun g _ hg => by have h1 := (HKD.out.lt g hg).1; have h2 := HSz.out; omega)
  have HSDc : Hid (W0.heap.size ≤ Dc.heap.size) := Nat.le_trans HSD.out HFDc.out.size
  have HPDc : Hid (∀ g, (Value.slice ADc (ks.length - 1) cDc).ownBlock = some g → (Value.slice V1 vs.length vc).ownBlock ≠ some g) := fun g hk hv => by
    rcases HODc.out with e | e
    · rw [e] at hk; exact HPD.out g hk hv
    · rw [e] at hk
      injection hk with hk
      have := (HVD.out.lt g hv).2
      omega
  dsimp only
  refine hK.out _ _ (fun _ _ => HRDc.out) ?_
  clear hK K
  try simp only [Act.put, List.setIfInBounds_toArray, List.set_cons_zero, List.set_cons_succ]
  refine Held3.Ways.plain (i := 12) (oi := ?o25) ?v25 ?hi25 ?hs25 ?hf25 ?hr25 ?hQ25 ?hy25 (fun _ _ _ => id) ?rest25
  case hi25 => exact rfl
  case hs25 => kernel_rfl
  case hf25 => kernel_rfl
  case hr25 => kernel_rfl
  case hQ25 => exact fun _ _ _ h => h
  case hy25 =>
    refine .inl ⟨by rfl, fun W _ => ?_⟩
    go_simp
    try with_reducible rfl
  try simp only [Act.put, List.setIfInBounds_toArray, List.set_cons_zero, List.set_cons_succ]
  refine Held3.Ways.one (i := 11) (by rfl) (by kernel_rfl) (fun K hK => ?_)
  go_simp
  go_at_call 27
  refine (SlS.delete HVDc.out (sc_one _) m (by have := HMK.out; have := HV.out; omega)).mono ?_
  rintro e Dcd ⟨v9, rfl, ho, hb', hf⟩
  have hb : v9.ownBlock = (Value.slice V1 vs.length vc).ownBlock ∨ v9.ownBlock = some Dc.heap.size := .inl hb'
  clear hb'
  simp only [Nat.mul_one] at ho
  obtain ⟨ADcd, cDcd, rfl, _⟩ := ho.slice_
  have HFDcd := Lib.hid hf
  have HODcd := Lib.hid hb
  have HVDcd : Hid (Own Dcd W0.heap.size 9 1 (Value.slice ADcd (vs.length - 1) cDcd) (vs.length - 1) ((sc vs).take m ++ (sc vs).drop (m + 1))) := Lib.hid ho
  clear ho hb hf
  have HKDcd := Lib.hid (HKDc.out.fr HFDcd.out (fun g hg hm => HPDc.out g hg hm))
  have HNDcd := Lib.hid (HNDc.out.fr HFDcd.out (fun g hn hm => own_apart HVDc.out HNDc.out (by decide) g hm hn))
  have HRDcd := Lib.hid (HFDcd.out.blk HRDc.out (fun e => own_ne HVDc.out HRDc.out (by decide) e))
  have H6Dcd := Lib.hid (HFDcd.out.blk H6Dc.out (fun e => own_ne HVDc.out H6Dc.out (by decide) e))
  have HLDcd : Hid (Below w.heap.size w Dcd) := HLDc.out.trans (HFDcd.out.below HLDc.out.size fun g _ hg => by have h1 := (HVDc.out.lt g hg).1; have h2 := HSz.out; omega)
  have HSDcd : Hid (W0.heap.size ≤ Dcd.heap.size) := Nat.le_trans HSDc.out HFDcd.out.size
  have HPDcd : Hid (∀ g, (Value.slice ADc (ks.length - 1) cDc).ownBlock = some g → (Value.slice ADcd (vs.length - 1) cDcd).ownBlock ≠ some g) := fun g hk hv => by
    rcases HODcd.out with e | e
    · rw [e] at hv; exact HPDc.out g hk hv
    · rw [e] at hv
      injection hv with hv
      have := (HKDc.out.lt g hk).2
      omega
  dsimp only
  refine hK.out _ _ (fun _ _ => HRDcd.out) ?_
  clear hK K
  try simp only [Act.put, List.setIfInBounds_toArray, List.set_cons_zero, List.set_cons_succ]
  refine Held3.Ways.one (i := 13) (by rfl) (by kernel_rfl) (fun K hK => ?_)
  obtain ⟨f0, f1, f2, f3, f4, f5, f6, f7, f8⟩ := row8_facts (HRDcd.out)
  go_simp
  refine hK.out _ _ (fun h => absurd h (by decide)) ?_
  clear hK K
  try simp only [Act.put, List.setIfInBounds_toArray, List.set_cons_zero, List.set_cons_succ]
  refine Held3.Ways.plain (i := 14) (oi := ?o26) ?v26 ?hi26 ?hs26 ?hf26 ?hr26 ?hQ26 ?hy26 (fun _ _ _ => id) ?rest26
  case hi26 => exact rfl
  case hs26 => kernel_rfl
  case hf26 => kernel_rfl
  case hr26 => kernel_rfl
  case hQ26 => exact fun _ _ _ h => h
  case hy26 =>
    refine .inl ⟨by rfl, fun W _ => ?_⟩
    go_simp
    try with_reducible rfl
  try simp only [Act.put, List.setIfInBounds_toArray, List.set_cons_zero, List.set_cons_succ]
  refine Held3.Ways.one (i := 15) (by rfl) (by kernel_rfl) (fun K hK => ?_)
  go_simp
  refine hK.out _ _ (fun h => absurd h (by decide)) ?_
  clear hK K
  try simp only [Act.put, List.setIfInBounds_toArray, List.set_cons_zero, List.set_cons_succ]
  refine Held3.Ways.done (by kernel_rfl) ?_ _
  clear f0 f1 f2 f3 f4 f5 f6 f7 f8
  obtain ⟨Y, hY⟩ : ∃ Y, Y = ((Dcd.setCell ⟨w.heap.size, 1, none⟩ (Value.slice ADc (ks.length - 1) cDc)).setCell ⟨w.heap.size, 2, none⟩ (Value.slice ADcd (vs.length - 1) cDcd)) := ⟨_, rfl⟩
  rw [← hY]
  have hkeep : ∀ g, g ≠ w.heap.size → Y.heap[g]? = Dcd.heap[g]? := fun g hg => by rw [hY]; exact (Below.heap_setCell _ _ _ _ hg).trans (Below.heap_setCell _ _ _ _ hg)
  have HY3 : Hid (Y.heap[w.heap.size]? = some (.cells #[.int .i64 1, (Value.slice ADc (ks.length - 1) cDc), (Value.slice ADcd (vs.length - 1) cDcd), .slice N1 ns.length nc, .int .i64 0, .int .i64 0, .int .i64 0, .int .i64 0] 26 (0, 0))) := by
    rw [hY]
    have h9 := heap_setCell_same _ w.heap.size 2 _ _ (Value.slice ADcd (vs.length - 1) cDcd) (heap_setCell_same Dcd w.heap.size 1 _ _ (Value.slice ADc (ks.length - 1) cDc) HRDcd.out)
    exact Lib.hid (by simpa using h9)
  have HY6 : Hid (Y.heap[w.heap.size + 1]? = some (.cells #[.int .i64 0, .slice none 0 0, .slice none 0 0, .slice none 0 0, .int .i64 0, .int .i64 0, .int .i64 0, .int .i64 0] 26 (0, 0))) := Lib.hid ((hkeep _ (by omega)).trans H6Dcd.out)
  have HYL : Hid (Below w.heap.size w Y) := by rw [hY]; exact below_set (below_set HLDcd.out (Nat.le_refl _) _) (Nat.le_refl _) _
  have HYK := Lib.hid (HKDcd.out.kept fun g hg => hkeep g (by have h1 := (HKDcd.out.lt g hg).1; have h2 := HSz.out; omega))
  have HYV := Lib.hid (HVDcd.out.kept fun g hg => hkeep g (by have h1 := (HVDcd.out.lt g hg).1; have h2 := HSz.out; omega))
  have HYN := Lib.hid (HNDcd.out.kept fun g hg => hkeep g (by have h1 := (HNDcd.out.lt g hg).1; have h2 := HSz.out; omega))
  clear hY hkeep
  obtain ⟨f0, f1, f2, f3, f4, f5, f6, f7, f8⟩ := row8_facts (HY3.out)
  obtain ⟨z0, z1, z2, z3, z4, z5, z6, z7, z8⟩ := row8_facts (HY6.out)
  go_wp2_with fail
  clear f0 f1 f2 f3 f4 f5 f6 f7 f8 z0 z1 z2 z3 z4 z5 z6 z7 z8
  refine bodyPost_ret (results_cell_row rfl _ _ (w.heap.size + 1) 26 _ (0, 0) _ rfl (row8_set HY6.out _ _ _ _ _ _ _ _) Try.underlying26 rfl rfl) rfl ?_
  have hfin : ∀ g, W0.heap.size ≤ g → (((((((((Y.setCell ⟨(w.heap.size + 1), 0, none⟩ (.int .i64 1)).setCell ⟨(w.heap.size + 1), 1, none⟩ ((Value.slice ADc (ks.length - 1) cDc))).setCell ⟨(w.heap.size + 1), 2, none⟩ ((Value.slice ADcd (vs.length - 1) cDcd))).setCell ⟨(w.heap.size + 1), 3, none⟩ (.slice N1 ns.length nc)).setCell ⟨(w.heap.size + 1), 4, none⟩ (.int .i64 0)).setCell ⟨(w.heap.size + 1), 5, none⟩ (.int .i64 0)).setCell ⟨(w.heap.size + 1), 6, none⟩ (.int .i64 0)).setCell ⟨(w.heap.size + 1), 7, none⟩ (.int .i64 0))).heap[g]? = Y.heap[g]? := fun g hg => set8_ne _ (by have := HSz.out; omega) _ _ _ _ _ _ _ _
  have hsz := HSz.out
  obtain ⟨l1, l2, l3⟩ := HLEN.out
  have hvl := HV.out
  have hmk := HMK.out
  have ek : (sc ks).take m ++ (sc ks).drop (m + 1) = sc (ks.take m ++ ks.drop (m + 1)) := by simp [sc, List.map_take, List.map_drop]
  have ev : (sc vs).take m ++ (sc vs).drop (m + 1) = sc (vs.take m ++ vs.drop (m + 1)) := by simp [sc, List.map_take, List.map_drop]
  have nk : (ks.take m ++ ks.drop (m + 1)).length = ks.length - 1 := by simp; omega
  have nv : (vs.take m ++ vs.drop (m + 1)).length = vs.length - 1 := by simp; omega
  have hK := HYK.out
  have hV := HYV.out
  rw [ek, ← nk] at hK
  rw [ev, ← nv] at hV
  rw [← nk, ← nv] at hfin ⊢
  refine ⟨_, _, _, rfl, ⟨?_, ?_, ?_, ?_, ?_⟩, set8_below HYL.out (Nat.le_succ _) _ _ _ _ _ _ _ _⟩
  · rw [← HM.out]
    exact (hK.base_ (base' := w.heap.size) fun g hg => by have := (hK.lt g hg).1; omega).kept fun g hg => hfin g (hK.lt g hg).1
  · rw [← HM.out]
    exact (hV.base_ (base' := w.heap.size) fun g hg => by have := (hV.lt g hg).1; omega).kept fun g hg => hfin g (hV.lt g hg).1
  · exact (HYN.out.base_ (base' := w.heap.size) fun g hg => by have := (HYN.out.lt g hg).1; omega).kept fun g hg => hfin g (HYN.out.lt g hg).1
  · rw [← HM.out]
    dsimp only
    rw [nk, nv]; exact ⟨by omega, by omega, l3⟩
  · rw [nk, nv]; exact HPDcd.out
end Go.Proofs.Ytfhpgmgmofganaa.NodeA
