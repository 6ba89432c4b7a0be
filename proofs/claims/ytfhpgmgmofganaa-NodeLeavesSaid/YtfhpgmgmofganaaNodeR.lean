/- Join: two pages as one. -/
import Derived.Test.YtfhpgmgmofganaaNodeQ
import Derived.Test.YtfhpgmgmofganaaHeld3
set_option linter.unusedVariables false
set_option linter.unusedSimpArgs false
set_option linter.unusedSectionVars false
namespace Go.Proofs.Ytfhpgmgmofganaa.NodeA
open Go.RowKit Go.WideShapes Go.Deep Go.Proofs.Ytfhpgmgmofganaa.Mem Go.Proofs.Ytfhpgmgmofganaa.Open Go.Proofs.Ytfhpgmgmofganaa.Kv
theorem own_apart {w : World} {b1 b2 k1 k2 n1 n2 : Nat} {e1 e2 : TypeId} {v1 v2 : Value} {xs ys : List Value} (h1 : Own w b1 e1 k1 v1 n1 xs) (h2 : Own w b2 e2 k2 v2 n2 ys) (hne : e1 ≠ e2) : ∀ g, v1.ownBlock = some g → v2.ownBlock ≠ some g := by
  intro g hv
  rcases h1.2 with ⟨rfl, _⟩ | ⟨g', off, cap, cur, rfl, _, hh, _⟩
  · simp [Value.ownBlock] at hv
  · simp [Value.ownBlock] at hv
    subst hv
    exact own_ne h2 hh hne
theorem rd_hy {w : World} {B n c : Nat} {A : Option Addr} {xs : List Value} (h : Rd w B 1 (.slice A n c) n xs) : 0 < n → ∃ g off, A = some ⟨g, off, none⟩ ∧ ∀ j u, xs[j]? = some u → w.cell? ⟨g, off + j, none⟩ = some u := by
  intro h0
  obtain ⟨hl, A', c', e, hn, hc, ha⟩ := h
  injection e with e1 _ e3
  subst e1 e3
  obtain ⟨g, off, e, _, hx⟩ := ha h0
  exact ⟨g, off, e, hx⟩
/-- Two pages as one. -/
def joinP (a : Pg) (k : S) (b : Pg) : Pg := ⟨a.kind, (if a.kind = 2 then a.keys ++ [k] else a.keys) ++ b.keys, a.vals ++ b.vals, a.kids ++ b.kids⟩
set_option maxHeartbeats 2000000 in
set_option maxRecDepth 100000 in
theorem join_any {kv vv nv kv2 vv2 nv2 : Value} {a b : Pg} (w : World) (h : PgR w kv vv nv a) (h2 : PgR w kv2 vv2 nv2 b) (k : S)
    (hl : (joinP a k b).keys.length ≤ 100 ∧ (joinP a k b).vals.length ≤ 100 ∧ (joinP a k b).kids.length ≤ 100) :
    Calls Try.prog 14 #[pv a.kind kv vv nv, .string k, pv b.kind kv2 vv2 nv2] w fun e w' => ∃ kv' vv' nv', e = .returned (pv a.kind kv' vv' nv') ∧ PgR w' kv' vv' nv' (joinP a k b) ∧ Below w.heap.size w w' := by
  obtain ⟨Ak, ck, Av, cv, An, cn, rfl, rfl, rfl⟩ := h.forms
  obtain ⟨Bk, dk, Bv, dv, Bn, dn, rfl, rfl, rfl⟩ := h2.forms
  have HC : Hid (∀ X, Below w.heap.size w X → Calls Try.prog 11 #[pv a.kind (.slice Ak a.keys.length ck) (.slice Av a.vals.length cv) (.slice An a.kids.length cn)] X fun e w' => ∃ kv' vv' nv', e = .returned (pv a.kind kv' vv' nv') ∧ PgO w' X.heap.size kv' vv' nv' a ∧ Below X.heap.size X w') := fun X hb => clone_any X (h.up hb)
  have HB : Hid (∀ X, Below w.heap.size w X → PgR X (.slice Bk b.keys.length dk) (.slice Bv b.vals.length dv) (.slice Bn b.kids.length dn) b) := fun X hb => h2.up hb
  have HLA := Lib.hid h.lens
  have HLB := Lib.hid h2.lens
  have HLJ := Lib.hid hl
  clear h h2 hl
  unfold pv at *
  go_enter Try.func14, Try.ntmps14
  go_wp2_with fail
  obtain ⟨W0, hW0⟩ : ∃ W0, W0 = ((w.alloc (.cells #[.int .i64 a.kind, .slice Ak a.keys.length ck, .slice Av a.vals.length cv, .slice An a.kids.length cn, .int .i64 0, .int .i64 0, .int .i64 0, .int .i64 0] 26)).alloc (.cells #[.int .i64 b.kind, .slice Bk b.keys.length dk, .slice Bv b.vals.length dv, .slice Bn b.kids.length dn, .int .i64 0, .int .i64 0, .int .i64 0, .int .i64 0] 26)).alloc (.cells #[.int .i64 0, .slice none 0 0, .slice none 0 0, .slice none 0 0, .int .i64 0, .int .i64 0, .int .i64 0, .int .i64 0] 26) := ⟨_, rfl⟩
  rw [← hW0]
  have HSz : Hid (W0.heap.size = w.heap.size + 3) := Lib.hid (by rw [hW0]; simp)
  have HSw : Hid (w.heap.size ≤ W0.heap.size) := Lib.hid (by have := HSz.out; omega)
  have HBw : Hid (Below w.heap.size w W0) := by rw [hW0]; exact (((Below.refl _ w).alloc (Nat.le_refl _) _).alloc (by simp) _).alloc (by simp; omega) _
  have HS3 : Hid (∀ X, Below W0.heap.size W0 X → X.heap[w.heap.size]? = some (.cells #[.int .i64 a.kind, .slice Ak a.keys.length ck, .slice Av a.vals.length cv, .slice An a.kids.length cn, .int .i64 0, .int .i64 0, .int .i64 0, .int .i64 0] 26 (0, 0))) := fun X hb => (hb.block _ (by rw [HSz.out]; omega)).trans (by
    rw [hW0, Below.heap_alloc _ _ _ (by simp; omega), Below.heap_alloc _ _ _ (by simp)]; exact heap_alloc_new w _)
  have HS5 : Hid (∀ X, Below W0.heap.size W0 X → X.heap[w.heap.size + 1]? = some (.cells #[.int .i64 b.kind, .slice Bk b.keys.length dk, .slice Bv b.vals.length dv, .slice Bn b.kids.length dn, .int .i64 0, .int .i64 0, .int .i64 0, .int .i64 0] 26 (0, 0))) := fun X hb => (hb.block _ (by rw [HSz.out]; omega)).trans (by
    rw [hW0, Below.heap_alloc _ _ _ (by simp)]
    have h9 := heap_alloc_new (w.alloc (.cells #[.int .i64 a.kind, .slice Ak a.keys.length ck, .slice Av a.vals.length cv, .slice An a.kids.length cn, .int .i64 0, .int .i64 0, .int .i64 0, .int .i64 0] 26)) (.cells #[.int .i64 b.kind, .slice Bk b.keys.length dk, .slice Bv b.vals.length dv, .slice Bn b.kids.length dn, .int .i64 0, .int .i64 0, .int .i64 0, .int .i64 0] 26)
    rw [World.size_alloc] at h9
    exact h9)
  have HS6 : Hid (∀ X, Below W0.heap.size W0 X → X.heap[w.heap.size + 1 + 1]? = some (.cells #[.int .i64 0, .slice none 0 0, .slice none 0 0, .slice none 0 0, .int .i64 0, .int .i64 0, .int .i64 0, .int .i64 0] 26 (0, 0))) := fun X hb => (hb.block _ (by rw [HSz.out]; omega)).trans (by
    rw [hW0]
    have h9 := heap_alloc_new ((w.alloc (.cells #[.int .i64 a.kind, .slice Ak a.keys.length ck, .slice Av a.vals.length cv, .slice An a.kids.length cn, .int .i64 0, .int .i64 0, .int .i64 0, .int .i64 0] 26)).alloc (.cells #[.int .i64 b.kind, .slice Bk b.keys.length dk, .slice Bv b.vals.length dv, .slice Bn b.kids.length dn, .int .i64 0, .int .i64 0, .int .i64 0, .int .i64 0] 26)) (.cells #[.int .i64 0, .slice none 0 0, .slice none 0 0, .slice none 0 0, .int .i64 0, .int .i64 0, .int .i64 0, .int .i64 0] 26)
    rw [World.size_alloc, World.size_alloc] at h9
    exact h9)
  clear hW0
  refine (HC.out W0 HBw.out).mono ?_
  rintro e W1 ⟨kv, vv, nv, rfl, ho, hb⟩
  obtain ⟨K1, kc, V1, vc, N1, nc, rfl, rfl, rfl⟩ := ho.rd.forms
  have HO := Lib.hid ho
  have HLW := Lib.hid hb
  clear ho hb
  have HX : Hid (Below W0.heap.size W0 (W1.alloc (.cells #[.int .i64 a.kind, .slice K1 a.keys.length kc, .slice V1 a.vals.length vc, .slice N1 a.kids.length nc, .int .i64 0, .int .i64 0, .int .i64 0, .int .i64 0] 26))) := HLW.out.alloc HLW.out.size _
  obtain ⟨f0, f1, f2, f3, f4, f5, f6, f7, f8⟩ := row8_facts (HS3.out _ HX.out)
  by_cases hk : a.kind = 2
  · have kb : (a.kind == 2) = true := by simp [hk]
    have hwb : W1.heap.size < (W1.alloc (.cells #[.int .i64 a.kind, .slice K1 a.keys.length kc, .slice V1 a.vals.length vc, .slice N1 a.kids.length nc, .int .i64 0, .int .i64 0, .int .i64 0, .int .i64 0] 26)).heap.size := by simp
    have hrun := app_gen (W := (W1.alloc (.cells #[.int .i64 a.kind, .slice K1 a.keys.length kc, .slice V1 a.vals.length vc, .slice N1 a.kids.length nc, .int .i64 0, .int .i64 0, .int .i64 0, .int .i64 0] 26)).alloc (.cells #[.string k] 9)) 22 22 Try.underlying22 SlS.ty (by decide) ((HO.out.keys.alloc _).alloc _) (by have := HLW.out.size; simp; omega) (A := some ⟨W1.heap.size + 1, 0, none⟩) (m := 1) (c := 1) (ys := sc [k]) rfl (sc_one _) (fun _ => ⟨_, 0, rfl, fun jj u hu => by
      have h9 := heap_alloc_new (W1.alloc (.cells #[.int .i64 a.kind, .slice K1 a.keys.length kc, .slice V1 a.vals.length vc, .slice N1 a.kids.length nc, .int .i64 0, .int .i64 0, .int .i64 0, .int .i64 0] 26)) (.cells #[.string k] 9)
      rw [World.size_alloc] at h9
      rw [Nat.zero_add, cell_of_row _ _ _ _ _ _ h9]; simpa [sc] using hu⟩) (by have := HLA.out; omega)
    have HRUN := Lib.hid hrun
    have HW9 : Hid (∀ W, Fr (fun g => (Value.slice K1 a.keys.length kc).ownBlock = some g) ((W1.alloc (.cells #[.int .i64 a.kind, .slice K1 a.keys.length kc, .slice V1 a.vals.length vc, .slice N1 a.kids.length nc, .int .i64 0, .int .i64 0, .int .i64 0, .int .i64 0] 26)).alloc (.cells #[.string k] 9)) W → W.heap[W1.heap.size]? = some (.cells #[.int .i64 a.kind, .slice K1 a.keys.length kc, .slice V1 a.vals.length vc, .slice N1 a.kids.length nc, .int .i64 0, .int .i64 0, .int .i64 0, .int .i64 0] 26 (0, 0))) := fun W hf =>
      hf.blk ((Below.heap_alloc _ _ _ hwb).trans (heap_alloc_new W1 _)) (fun e => by have := (HO.out.keys.lt _ e).2; omega)
    clear hrun hwb
    have HKD := Lib.hid hk
    clear hk
    go_wp2_with (at_builtin; refine wpL_append rfl _ _ 22 22 rfl rfl rfl HRUN.out ?_; rintro v1 W2 ⟨⟨K2, kc2, rfl⟩, ho1, hf1, hb1⟩; have HO1 := Lib.hid ho1; have HF1 := Lib.hid hf1; have HB1 := Lib.hid hb1; clear ho1 hf1 hb1 f0 f1 f2 f3 f4 f5 f6 f7 f8; obtain ⟨f0, f1, f2, f3, f4, f5, f6, f7, f8⟩ := row8_facts (HW9.out _ HF1.out))
    obtain ⟨ks1, hks1⟩ : ∃ ks1, ks1 = a.keys ++ [k] := ⟨_, rfl⟩
    have hl1 : ks1.length = a.keys.length + 1 := by rw [hks1]; simp
    have HO1' : Hid (Own W2 W0.heap.size 9 1 (Value.slice K2 ks1.length kc2) ks1.length (sc ks1)) := by rw [hl1, hks1]; exact Lib.hid (by have h9 := HO1.out; simpa [sc] using h9)
    have HB1' : Hid ((Value.slice K2 ks1.length kc2).ownBlock = (Value.slice K1 a.keys.length kc).ownBlock ∨ (Value.slice K2 ks1.length kc2).ownBlock = some (W1.heap.size + 1 + 1)) := by rw [hl1]; exact Lib.hid (by have h9 := HB1.out; simpa using h9)
    have HJK : Hid ((joinP a k b).keys = ks1 ++ b.keys) := Lib.hid (by unfold joinP; rw [hks1, if_pos HKD.out])
    have HW2 := Lib.hid (HW9.out _ HF1.out)
    have HL2 : Hid (Below W0.heap.size W0 W2) := (HX.out.alloc HX.out.size _).trans (HF1.out.below (by have := HLW.out.size; simp; omega) fun g _ hg => (HO.out.keys.lt g hg).1)
    have HV2 := Lib.hid (((HO.out.vals.alloc _).alloc _).fr HF1.out (fun g hv hk => HO.out.apart g hk hv))
    have HN2 := Lib.hid (((HO.out.kids.alloc _).alloc _).fr HF1.out (fun g hv hk => own_apart HO.out.keys HO.out.kids (by decide) g hk hv))
    rw [← hl1]
    clear HO1 HB1 hl1 hks1 HRUN HW9 HF1 f0 f1 f2 f3 f4 f5 f6 f7 f8
    obtain ⟨X, hX⟩ : ∃ X, X = W2.setCell ⟨W1.heap.size, 1, none⟩ (Value.slice K2 ks1.length kc2) := ⟨_, rfl⟩
    rw [← hX]
    have hkeep : ∀ k, k ≠ W1.heap.size → X.heap[k]? = W2.heap[k]? := fun k hk => by rw [hX]; exact Below.heap_setCell _ _ _ _ hk
    have HXL : Hid (Below W0.heap.size W0 X) := by rw [hX]; exact below_set HL2.out HLW.out.size _
    have HX7 : Hid (X.heap[W1.heap.size]? = some (.cells #[.int .i64 a.kind, .slice K2 ks1.length kc2, .slice V1 a.vals.length vc, .slice N1 a.kids.length nc, .int .i64 0, .int .i64 0, .int .i64 0, .int .i64 0] 26 (0, 0))) := by rw [hX]; have h9 := heap_setCell_same W2 W1.heap.size 1 _ _ (Value.slice K2 ks1.length kc2) HW2.out; exact Lib.hid (by simpa using h9)
    have HXK : Hid (Own X W0.heap.size 9 1 (Value.slice K2 ks1.length kc2) ks1.length (sc ks1)) := HO1'.out.kept fun g hg => hkeep g fun e => own_ne HO1'.out HW2.out (by decide) (e ▸ hg)
    have HXV : Hid (Own X W0.heap.size 9 1 (Value.slice V1 a.vals.length vc) a.vals.length (sc a.vals)) := HV2.out.kept fun g hg => hkeep g fun e => own_ne HV2.out HW2.out (by decide) (e ▸ hg)
    have HXN : Hid (Own X W0.heap.size 3 1 (Value.slice N1 a.kids.length nc) a.kids.length (ic a.kids)) := HN2.out.kept fun g hg => hkeep g fun e => own_ne HN2.out HW2.out (by decide) (e ▸ hg)
    have HXA : Hid (∀ g, (Value.slice K2 ks1.length kc2).ownBlock = some g → (Value.slice V1 a.vals.length vc).ownBlock ≠ some g) := fun g hg hv => by
      rcases HB1'.out with e | e
      · rw [e] at hg; exact HO.out.apart g hg hv
      · rw [e] at hg
        injection hg with hg
        have := (HO.out.vals.lt g hv).2
        omega
    clear hX hkeep
    obtain ⟨g7, hg7⟩ : ∃ g, g = W1.heap.size := ⟨_, rfl⟩
    have HG7 : Hid (W0.heap.size ≤ g7) := by rw [hg7]; exact HLW.out.size
    rw [← hg7] at HX7 ⊢
    clear hg7
    refine Held3.ways_start (fun i W W' => ((fun W : World => W.heap[w.heap.size + 1]? = some (.cells #[.int .i64 b.kind, .slice Bk b.keys.length dk, .slice Bv b.vals.length dv, .slice Bn b.kids.length dn, .int .i64 0, .int .i64 0, .int .i64 0, .int .i64 0] 26 (0, 0))) W → (fun W : World => W.heap[w.heap.size + 1]? = some (.cells #[.int .i64 b.kind, .slice Bk b.keys.length dk, .slice Bv b.vals.length dv, .slice Bn b.kids.length dn, .int .i64 0, .int .i64 0, .int .i64 0, .int .i64 0] 26 (0, 0))) W') ∧ (decide (i ≠ 16 ∧ i ≠ 18 ∧ i ≠ 20) = true → (fun W : World => W.heap[g7]? = some (.cells #[.int .i64 a.kind, .slice K2 ks1.length kc2, .slice V1 a.vals.length vc, .slice N1 a.kids.length nc, .int .i64 0, .int .i64 0, .int .i64 0, .int .i64 0] 26 (0, 0))) W → (fun W : World => W.heap[g7]? = some (.cells #[.int .i64 a.kind, .slice K2 ks1.length kc2, .slice V1 a.vals.length vc, .slice N1 a.kids.length nc, .int .i64 0, .int .i64 0, .int .i64 0, .int .i64 0] 26 (0, 0))) W')) (by kernel_rfl) ?_
    obtain ⟨D, hD⟩ : ∃ D, D = X.drew := ⟨_, rfl⟩
    rw [← hD]
    have HLD : Hid (Below W0.heap.size W0 D) := by rw [hD]; exact HXL.out.drew
    have HZD : Hid (D.heap[g7]? = some (.cells #[.int .i64 a.kind, .slice K2 ks1.length kc2, .slice V1 a.vals.length vc, .slice N1 a.kids.length nc, .int .i64 0, .int .i64 0, .int .i64 0, .int .i64 0] 26 (0, 0))) := by rw [hD]; exact HX7
    have HKD' : Hid (Own D W0.heap.size 9 1 (Value.slice K2 ks1.length kc2) ks1.length (sc ks1)) := by rw [hD]; exact Lib.hid HXK.out.drew
    have HVD : Hid (Own D W0.heap.size 9 1 (Value.slice V1 a.vals.length vc) a.vals.length (sc a.vals)) := by rw [hD]; exact Lib.hid HXV.out.drew
    have HND : Hid (Own D W0.heap.size 3 1 (Value.slice N1 a.kids.length nc) a.kids.length (ic a.kids)) := by rw [hD]; exact Lib.hid HXN.out.drew
    clear hD
    have HSD5 := HS5.out D HLD.out
    have HSD7 := HZD.out
    refine Held3.Ways.plain (i := 0) (oi := ?o1) ?v1 ?hi1 ?hs1 ?hf1 ?hr1 ?hQ1 ?hy1 (fun _ _ => ⟨id, fun _ => id⟩) ?rest1
    case hi1 => exact rfl
    case hs1 => kernel_rfl
    case hf1 => kernel_rfl
    case hr1 => kernel_rfl
    case hQ1 => exact fun _ _ _ h => h
    case hy1 =>
      refine .inl ⟨by rfl, fun W _ => ?_⟩
      go_simp
      try with_reducible rfl
    try simp only [Act.put, List.setIfInBounds_toArray, List.set_cons_zero, List.set_cons_succ]
    refine Held3.Ways.take (i := 1) (oi := ?o2) (fun W : World => W.heap[g7]? = some (.cells #[.int .i64 a.kind, .slice K2 ks1.length kc2, .slice V1 a.vals.length vc, .slice N1 a.kids.length nc, .int .i64 0, .int .i64 0, .int .i64 0, .int .i64 0] 26 (0, 0))) (fun i => decide (i ≠ 16 ∧ i ≠ 18 ∧ i ≠ 20)) ?v2 ?hi2 ?hs2 ?hf2 ?hlw2 ?hr2 ?hQ2 HSD7 ?hy2 (fun _ _ _ h => h.2) (fun _ _ => ⟨id, fun _ => id⟩) ?rest2
    case hi2 => exact rfl
    case hs2 => kernel_rfl
    case hf2 => kernel_rfl
    case hlw2 => kernel_rfl
    case hr2 => kernel_rfl
    case hQ2 => exact fun _ _ _ h => h
    case hy2 =>
      refine .inl ⟨by rfl, fun W hW => ?_⟩
      obtain ⟨f0, f1, f2, f3, f4, f5, f6, f7, f8⟩ := row8_facts hW
      go_simp
      try with_reducible rfl
    try simp only [Act.put, List.setIfInBounds_toArray, List.set_cons_zero, List.set_cons_succ]
    refine Held3.Ways.plain (i := 2) (oi := ?o3) ?v3 ?hi3 ?hs3 ?hf3 ?hr3 ?hQ3 ?hy3 (fun _ _ => ⟨id, fun _ => id⟩) ?rest3
    case hi3 => exact rfl
    case hs3 => kernel_rfl
    case hf3 => kernel_rfl
    case hr3 => kernel_rfl
    case hQ3 => exact fun _ _ _ h => h
    case hy3 =>
      refine .inl ⟨by rfl, fun W _ => ?_⟩
      go_simp
      try with_reducible rfl
    try simp only [Act.put, List.setIfInBounds_toArray, List.set_cons_zero, List.set_cons_succ]
    refine Held3.Ways.take (i := 3) (oi := ?o4) (fun W : World => W.heap[w.heap.size + 1]? = some (.cells #[.int .i64 b.kind, .slice Bk b.keys.length dk, .slice Bv b.vals.length dv, .slice Bn b.kids.length dn, .int .i64 0, .int .i64 0, .int .i64 0, .int .i64 0] 26 (0, 0))) (fun _ => true) ?v4 ?hi4 ?hs4 ?hf4 ?hlw4 ?hr4 ?hQ4 HSD5 ?hy4 (fun _ _ _ h _ => h.1) (fun _ _ => ⟨id, fun _ => id⟩) ?rest4
    case hi4 => exact rfl
    case hs4 => kernel_rfl
    case hf4 => kernel_rfl
    case hlw4 => kernel_rfl
    case hr4 => kernel_rfl
    case hQ4 => exact fun _ _ _ h => h
    case hy4 =>
      refine .inl ⟨by rfl, fun W hW => ?_⟩
      obtain ⟨f0, f1, f2, f3, f4, f5, f6, f7, f8⟩ := row8_facts hW
      go_simp
      try with_reducible rfl
    try simp only [Act.put, List.setIfInBounds_toArray, List.set_cons_zero, List.set_cons_succ]
    refine Held3.Ways.plain (i := 5) (oi := ?o5) ?v5 ?hi5 ?hs5 ?hf5 ?hr5 ?hQ5 ?hy5 (fun _ _ => ⟨id, fun _ => id⟩) ?rest5
    case hi5 => exact rfl
    case hs5 => kernel_rfl
    case hf5 => kernel_rfl
    case hr5 => kernel_rfl
    case hQ5 => exact fun _ _ _ h => h
    case hy5 =>
      refine .inl ⟨by rfl, fun W _ => ?_⟩
      go_simp
      try with_reducible rfl
    try simp only [Act.put, List.setIfInBounds_toArray, List.set_cons_zero, List.set_cons_succ]
    refine Held3.Ways.take (i := 6) (oi := ?o6) (fun W : World => W.heap[g7]? = some (.cells #[.int .i64 a.kind, .slice K2 ks1.length kc2, .slice V1 a.vals.length vc, .slice N1 a.kids.length nc, .int .i64 0, .int .i64 0, .int .i64 0, .int .i64 0] 26 (0, 0))) (fun i => decide (i ≠ 16 ∧ i ≠ 18 ∧ i ≠ 20)) ?v6 ?hi6 ?hs6 ?hf6 ?hlw6 ?hr6 ?hQ6 HSD7 ?hy6 (fun _ _ _ h => h.2) (fun _ _ => ⟨id, fun _ => id⟩) ?rest6
    case hi6 => exact rfl
    case hs6 => kernel_rfl
    case hf6 => kernel_rfl
    case hlw6 => kernel_rfl
    case hr6 => kernel_rfl
    case hQ6 => exact fun _ _ _ h => h
    case hy6 =>
      refine .inl ⟨by rfl, fun W hW => ?_⟩
      obtain ⟨f0, f1, f2, f3, f4, f5, f6, f7, f8⟩ := row8_facts hW
      go_simp
      try with_reducible rfl
    try simp only [Act.put, List.setIfInBounds_toArray, List.set_cons_zero, List.set_cons_succ]
    refine Held3.Ways.plain (i := 7) (oi := ?o7) ?v7 ?hi7 ?hs7 ?hf7 ?hr7 ?hQ7 ?hy7 (fun _ _ => ⟨id, fun _ => id⟩) ?rest7
    case hi7 => exact rfl
    case hs7 => kernel_rfl
    case hf7 => kernel_rfl
    case hr7 => kernel_rfl
    case hQ7 => exact fun _ _ _ h => h
    case hy7 =>
      refine .inl ⟨by rfl, fun W _ => ?_⟩
      go_simp
      try with_reducible rfl
    try simp only [Act.put, List.setIfInBounds_toArray, List.set_cons_zero, List.set_cons_succ]
    refine Held3.Ways.take (i := 8) (oi := ?o8) (fun W : World => W.heap[w.heap.size + 1]? = some (.cells #[.int .i64 b.kind, .slice Bk b.keys.length dk, .slice Bv b.vals.length dv, .slice Bn b.kids.length dn, .int .i64 0, .int .i64 0, .int .i64 0, .int .i64 0] 26 (0, 0))) (fun _ => true) ?v8 ?hi8 ?hs8 ?hf8 ?hlw8 ?hr8 ?hQ8 HSD5 ?hy8 (fun _ _ _ h _ => h.1) (fun _ _ => ⟨id, fun _ => id⟩) ?rest8
    case hi8 => exact rfl
    case hs8 => kernel_rfl
    case hf8 => kernel_rfl
    case hlw8 => kernel_rfl
    case hr8 => kernel_rfl
    case hQ8 => exact fun _ _ _ h => h
    case hy8 =>
      refine .inl ⟨by rfl, fun W hW => ?_⟩
      obtain ⟨f0, f1, f2, f3, f4, f5, f6, f7, f8⟩ := row8_facts hW
      go_simp
      try with_reducible rfl
    try simp only [Act.put, List.setIfInBounds_toArray, List.set_cons_zero, List.set_cons_succ]
    refine Held3.Ways.plain (i := 10) (oi := ?o9) ?v9 ?hi9 ?hs9 ?hf9 ?hr9 ?hQ9 ?hy9 (fun _ _ => ⟨id, fun _ => id⟩) ?rest9
    case hi9 => exact rfl
    case hs9 => kernel_rfl
    case hf9 => kernel_rfl
    case hr9 => kernel_rfl
    case hQ9 => exact fun _ _ _ h => h
    case hy9 =>
      refine .inl ⟨by rfl, fun W _ => ?_⟩
      go_simp
      try with_reducible rfl
    try simp only [Act.put, List.setIfInBounds_toArray, List.set_cons_zero, List.set_cons_succ]
    refine Held3.Ways.take (i := 11) (oi := ?o10) (fun W : World => W.heap[g7]? = some (.cells #[.int .i64 a.kind, .slice K2 ks1.length kc2, .slice V1 a.vals.length vc, .slice N1 a.kids.length nc, .int .i64 0, .int .i64 0, .int .i64 0, .int .i64 0] 26 (0, 0))) (fun i => decide (i ≠ 16 ∧ i ≠ 18 ∧ i ≠ 20)) ?v10 ?hi10 ?hs10 ?hf10 ?hlw10 ?hr10 ?hQ10 HSD7 ?hy10 (fun _ _ _ h => h.2) (fun _ _ => ⟨id, fun _ => id⟩) ?rest10
    case hi10 => exact rfl
    case hs10 => kernel_rfl
    case hf10 => kernel_rfl
    case hlw10 => kernel_rfl
    case hr10 => kernel_rfl
    case hQ10 => exact fun _ _ _ h => h
    case hy10 =>
      refine .inl ⟨by rfl, fun W hW => ?_⟩
      obtain ⟨f0, f1, f2, f3, f4, f5, f6, f7, f8⟩ := row8_facts hW
      go_simp
      try with_reducible rfl
    try simp only [Act.put, List.setIfInBounds_toArray, List.set_cons_zero, List.set_cons_succ]
    refine Held3.Ways.plain (i := 12) (oi := ?o11) ?v11 ?hi11 ?hs11 ?hf11 ?hr11 ?hQ11 ?hy11 (fun _ _ => ⟨id, fun _ => id⟩) ?rest11
    case hi11 => exact rfl
    case hs11 => kernel_rfl
    case hf11 => kernel_rfl
    case hr11 => kernel_rfl
    case hQ11 => exact fun _ _ _ h => h
    case hy11 =>
      refine .inl ⟨by rfl, fun W _ => ?_⟩
      go_simp
      try with_reducible rfl
    try simp only [Act.put, List.setIfInBounds_toArray, List.set_cons_zero, List.set_cons_succ]
    refine Held3.Ways.take (i := 13) (oi := ?o12) (fun W : World => W.heap[w.heap.size + 1]? = some (.cells #[.int .i64 b.kind, .slice Bk b.keys.length dk, .slice Bv b.vals.length dv, .slice Bn b.kids.length dn, .int .i64 0, .int .i64 0, .int .i64 0, .int .i64 0] 26 (0, 0))) (fun _ => true) ?v12 ?hi12 ?hs12 ?hf12 ?hlw12 ?hr12 ?hQ12 HSD5 ?hy12 (fun _ _ _ h _ => h.1) (fun _ _ => ⟨id, fun _ => id⟩) ?rest12
    case hi12 => exact rfl
    case hs12 => kernel_rfl
    case hf12 => kernel_rfl
    case hlw12 => kernel_rfl
    case hr12 => kernel_rfl
    case hQ12 => exact fun _ _ _ h => h
    case hy12 =>
      refine .inl ⟨by rfl, fun W hW => ?_⟩
      obtain ⟨f0, f1, f2, f3, f4, f5, f6, f7, f8⟩ := row8_facts hW
      go_simp
      try with_reducible rfl
    try simp only [Act.put, List.setIfInBounds_toArray, List.set_cons_zero, List.set_cons_succ]
    refine Held3.Ways.one (i := 4) (by rfl) (by kernel_rfl) (fun K hK => ?_)
    refine step_append rfl _ _ 22 22 rfl (by simp [Act.eval, Act.put]) (by simp [Act.eval, Act.put]) (app_gen (W := D) 22 22 Try.underlying22 SlS.ty (by decide) HKD'.out HLD.out.size (A := Bk) (m := b.keys.length) (c := dk) (ys := sc b.keys) (by simp [sc, ic]) (sc_one _) (rd_hy (HB.out D (HBw.out.trans (HLD.out.mono HSw.out))).keys) (by have h1 := HLJ.out; rw [HJK.out] at h1; simp [joinP] at h1; omega)) ?_
    rintro v X4 ⟨⟨AX4, cX4, rfl⟩, ho, hf, hb⟩
    have HFX4 := Lib.hid hf
    have HOX4 := Lib.hid ho
    have HBX4 := Lib.hid hb
    clear ho hf hb
    have HLX4 : Hid (Below W0.heap.size W0 X4) := HLD.out.trans (HFX4.out.below HLD.out.size fun g _ hg => (HKD'.out.lt g hg).1)
    have HZX4 : Hid (X4.heap[g7]? = some (.cells #[.int .i64 a.kind, .slice K2 ks1.length kc2, .slice V1 a.vals.length vc, .slice N1 a.kids.length nc, .int .i64 0, .int .i64 0, .int .i64 0, .int .i64 0] 26 (0, 0))) := HFX4.out.blk HZD.out (fun e => own_ne HKD'.out HZD.out (by decide) e)
    have HVX4 := Lib.hid (HVD.out.fr HFX4.out (fun g hv hk => HXA.out g hk hv))
    have HNX4 := Lib.hid (HND.out.fr HFX4.out (fun g hv hk => own_apart HKD'.out HND.out (by decide) g hk hv))
    have HAX4 : Hid (∀ g, (Value.slice AX4 (ks1.length + b.keys.length) cX4).ownBlock = some g → (Value.slice V1 a.vals.length vc).ownBlock ≠ some g) := fun g hg hv => by
      rcases HBX4.out with e | e
      · rw [e] at hg; exact HXA.out g hg hv
      · rw [e] at hg
        injection hg with hg
        have := (HVD.out.lt g hv).2
        omega
    refine hK.out _ _ ⟨fun _ => HS5.out _ HLX4.out, fun _ _ => HZX4.out⟩ ?_
    clear hK K
    try simp only [Act.put, List.setIfInBounds_toArray, List.set_cons_zero, List.set_cons_succ]
    refine Held3.Ways.plain (i := 15) (oi := ?o13) ?v13 ?hi13 ?hs13 ?hf13 ?hr13 ?hQ13 ?hy13 (fun _ _ => ⟨id, fun _ => id⟩) ?rest13
    case hi13 => exact rfl
    case hs13 => kernel_rfl
    case hf13 => kernel_rfl
    case hr13 => kernel_rfl
    case hQ13 => exact fun _ _ _ h => h
    case hy13 =>
      refine .inl ⟨by rfl, fun W _ => ?_⟩
      go_simp
      try with_reducible rfl
    try simp only [Act.put, List.setIfInBounds_toArray, List.set_cons_zero, List.set_cons_succ]
    refine Held3.Ways.one (i := 9) (by rfl) (by kernel_rfl) (fun K hK => ?_)
    refine step_append rfl _ _ 22 22 rfl (by simp [Act.eval, Act.put]) (by simp [Act.eval, Act.put]) (app_gen (W := X4) 22 22 Try.underlying22 SlS.ty (by decide) HVX4.out HLX4.out.size (A := Bv) (m := b.vals.length) (c := dv) (ys := sc b.vals) (by simp [sc, ic]) (sc_one _) (rd_hy (HB.out X4 (HBw.out.trans (HLX4.out.mono HSw.out))).vals) (by have h1 := HLJ.out; rw [HJK.out] at h1; simp [joinP] at h1; omega)) ?_
    rintro v X9 ⟨⟨AX9, cX9, rfl⟩, ho, hf, hb⟩
    have HFX9 := Lib.hid hf
    have HOX9 := Lib.hid ho
    have HBX9 := Lib.hid hb
    clear ho hf hb
    have HLX9 : Hid (Below W0.heap.size W0 X9) := HLX4.out.trans (HFX9.out.below HLX4.out.size fun g _ hg => (HVX4.out.lt g hg).1)
    have HZX9 : Hid (X9.heap[g7]? = some (.cells #[.int .i64 a.kind, .slice K2 ks1.length kc2, .slice V1 a.vals.length vc, .slice N1 a.kids.length nc, .int .i64 0, .int .i64 0, .int .i64 0, .int .i64 0] 26 (0, 0))) := HFX9.out.blk HZX4.out (fun e => own_ne HVX4.out HZX4.out (by decide) e)
    have HKX9 := Lib.hid (HOX4.out.fr HFX9.out (fun g hk hv => HAX4.out g hk hv))
    have HNX9 := Lib.hid (HNX4.out.fr HFX9.out (fun g hn hv => own_apart HVX4.out HNX4.out (by decide) g hv hn))
    refine hK.out _ _ ⟨fun _ => HS5.out _ HLX9.out, fun _ _ => HZX9.out⟩ ?_
    clear hK K
    try simp only [Act.put, List.setIfInBounds_toArray, List.set_cons_zero, List.set_cons_succ]
    refine Held3.Ways.one (i := 14) (by rfl) (by kernel_rfl) (fun K hK => ?_)
    refine step_append rfl _ _ 24 24 rfl (by simp [Act.eval, Act.put]) (by simp [Act.eval, Act.put]) (app_gen (W := X9) 24 24 Try.underlying24 SlI.ty (by decide) HNX9.out HLX9.out.size (A := Bn) (m := b.kids.length) (c := dn) (ys := ic b.kids) (by simp [sc, ic]) (ic_one _) (rd_hy (HB.out X9 (HBw.out.trans (HLX9.out.mono HSw.out))).kids) (by have h1 := HLJ.out; rw [HJK.out] at h1; simp [joinP] at h1; omega)) ?_
    rintro v X14 ⟨⟨AX14, cX14, rfl⟩, ho, hf, hb⟩
    have HFX14 := Lib.hid hf
    have HOX14 := Lib.hid ho
    have HBX14 := Lib.hid hb
    clear ho hf hb
    have HLX14 : Hid (Below W0.heap.size W0 X14) := HLX9.out.trans (HFX14.out.below HLX9.out.size fun g _ hg => (HNX9.out.lt g hg).1)
    have HZX14 : Hid (X14.heap[g7]? = some (.cells #[.int .i64 a.kind, .slice K2 ks1.length kc2, .slice V1 a.vals.length vc, .slice N1 a.kids.length nc, .int .i64 0, .int .i64 0, .int .i64 0, .int .i64 0] 26 (0, 0))) := HFX14.out.blk HZX9.out (fun e => own_ne HNX9.out HZX9.out (by decide) e)
    have HKX14 := Lib.hid (HKX9.out.fr HFX14.out (fun g hk hn => own_apart HKX9.out HNX9.out (by decide) g hk hn))
    have HVX14 := Lib.hid (HOX9.out.fr HFX14.out (fun g hv hn => own_apart HOX9.out HNX9.out (by decide) g hv hn))
    refine hK.out _ _ ⟨fun _ => HS5.out _ HLX14.out, fun _ _ => HZX14.out⟩ ?_
    clear hK K
    try simp only [Act.put, List.setIfInBounds_toArray, List.set_cons_zero, List.set_cons_succ]
    obtain ⟨f0, f1, f2, f3, f4, f5, f6, f7, f8⟩ := row8_facts HZX14.out
    have hne5 : w.heap.size + 1 ≠ g7 := by have := HSz.out; have := HG7.out; omega
    have HNE5 := Lib.hid hne5
    clear hne5
    refine Held3.Ways.one (i := 16) (by rfl) (by kernel_rfl) (fun K hK => ?_)
    go_simp
    refine hK.out _ _ ⟨fun h => (Below.heap_setCell _ _ _ _ HNE5.out).trans h, fun h => absurd h (by decide)⟩ ?_
    clear hK K
    try simp only [Act.put, List.setIfInBounds_toArray, List.set_cons_zero, List.set_cons_succ]
    refine Held3.Ways.plain (i := 17) (oi := ?o14) ?v14 ?hi14 ?hs14 ?hf14 ?hr14 ?hQ14 ?hy14 (fun _ _ => ⟨id, fun _ => id⟩) ?rest14
    case hi14 => exact rfl
    case hs14 => kernel_rfl
    case hf14 => kernel_rfl
    case hr14 => kernel_rfl
    case hQ14 => exact fun _ _ _ h => h
    case hy14 =>
      refine .inl ⟨by rfl, fun W _ => ?_⟩
      go_simp
      try with_reducible rfl
    try simp only [Act.put, List.setIfInBounds_toArray, List.set_cons_zero, List.set_cons_succ]
    refine Held3.Ways.one (i := 18) (by rfl) (by kernel_rfl) (fun K hK => ?_)
    go_simp
    refine hK.out _ _ ⟨fun h => (Below.heap_setCell _ _ _ _ HNE5.out).trans h, fun h => absurd h (by decide)⟩ ?_
    clear hK K
    try simp only [Act.put, List.setIfInBounds_toArray, List.set_cons_zero, List.set_cons_succ]
    refine Held3.Ways.plain (i := 19) (oi := ?o15) ?v15 ?hi15 ?hs15 ?hf15 ?hr15 ?hQ15 ?hy15 (fun _ _ => ⟨id, fun _ => id⟩) ?rest15
    case hi15 => exact rfl
    case hs15 => kernel_rfl
    case hf15 => kernel_rfl
    case hr15 => kernel_rfl
    case hQ15 => exact fun _ _ _ h => h
    case hy15 =>
      refine .inl ⟨by rfl, fun W _ => ?_⟩
      go_simp
      try with_reducible rfl
    try simp only [Act.put, List.setIfInBounds_toArray, List.set_cons_zero, List.set_cons_succ]
    refine Held3.Ways.one (i := 20) (by rfl) (by kernel_rfl) (fun K hK => ?_)
    go_simp
    refine hK.out _ _ ⟨fun h => (Below.heap_setCell _ _ _ _ HNE5.out).trans h, fun h => absurd h (by decide)⟩ ?_
    clear hK K
    try simp only [Act.put, List.setIfInBounds_toArray, List.set_cons_zero, List.set_cons_succ]
    refine Held3.Ways.done (by kernel_rfl) ?_ _
    clear f0 f1 f2 f3 f4 f5 f6 f7 f8 HSD5 HSD7
    obtain ⟨Y, hY⟩ : ∃ Y, Y = (((X14.setCell ⟨g7, 1, none⟩ (Value.slice AX4 (ks1.length + b.keys.length) cX4)).setCell ⟨g7, 2, none⟩ (Value.slice AX9 (a.vals.length + b.vals.length) cX9)).setCell ⟨g7, 3, none⟩ (Value.slice AX14 (a.kids.length + b.kids.length) cX14)) := ⟨_, rfl⟩
    rw [← hY]
    have hkeep : ∀ k, k ≠ g7 → Y.heap[k]? = X14.heap[k]? := fun k hk => by rw [hY]; exact (Below.heap_setCell _ _ _ _ hk).trans ((Below.heap_setCell _ _ _ _ hk).trans (Below.heap_setCell _ _ _ _ hk))
    have HYL : Hid (Below W0.heap.size W0 Y) := by rw [hY]; exact below_set (below_set (below_set HLX14.out HG7.out _) HG7.out _) HG7.out _
    have HY7 : Hid (Y.heap[g7]? = some (.cells #[.int .i64 a.kind, (Value.slice AX4 (ks1.length + b.keys.length) cX4), (Value.slice AX9 (a.vals.length + b.vals.length) cX9), (Value.slice AX14 (a.kids.length + b.kids.length) cX14), .int .i64 0, .int .i64 0, .int .i64 0, .int .i64 0] 26 (0, 0))) := by
      rw [hY]
      have h9 := heap_setCell_same _ g7 3 _ _ (Value.slice AX14 (a.kids.length + b.kids.length) cX14) (heap_setCell_same _ g7 2 _ _ (Value.slice AX9 (a.vals.length + b.vals.length) cX9) (heap_setCell_same X14 g7 1 _ _ (Value.slice AX4 (ks1.length + b.keys.length) cX4) HZX14.out))
      exact Lib.hid (by simpa using h9)
    have HYK := Lib.hid (HKX14.out.kept fun g hg => hkeep g fun e => own_ne HKX14.out HZX14.out (by decide) (e ▸ hg))
    have HYV := Lib.hid (HVX14.out.kept fun g hg => hkeep g fun e => own_ne HVX14.out HZX14.out (by decide) (e ▸ hg))
    have HYN := Lib.hid (HOX14.out.kept fun g hg => hkeep g fun e => own_ne HOX14.out HZX14.out (by decide) (e ▸ hg))
    clear hY hkeep
    obtain ⟨f0, f1, f2, f3, f4, f5, f6, f7, f8⟩ := row8_facts HY7.out
    obtain ⟨z0, z1, z2, z3, z4, z5, z6, z7, z8⟩ := row8_facts (HS6.out Y HYL.out)
    go_wp2_with fail
    clear f0 f1 f2 f3 f4 f5 f6 f7 f8 z0 z1 z2 z3 z4 z5 z6 z7 z8
    refine bodyPost_ret (results_cell_row rfl _ _ (w.heap.size + 1 + 1) 26 _ (0, 0) _ rfl (row8_set (HS6.out Y HYL.out) _ _ _ _ _ _ _ _) Try.underlying26 rfl rfl) rfl ?_
    have hfin : ∀ g, W0.heap.size ≤ g → (((((((((Y.setCell ⟨(w.heap.size + 1 + 1), 0, none⟩ (.int .i64 a.kind)).setCell ⟨(w.heap.size + 1 + 1), 1, none⟩ ((Value.slice AX4 (ks1.length + b.keys.length) cX4))).setCell ⟨(w.heap.size + 1 + 1), 2, none⟩ ((Value.slice AX9 (a.vals.length + b.vals.length) cX9))).setCell ⟨(w.heap.size + 1 + 1), 3, none⟩ ((Value.slice AX14 (a.kids.length + b.kids.length) cX14))).setCell ⟨(w.heap.size + 1 + 1), 4, none⟩ (.int .i64 0)).setCell ⟨(w.heap.size + 1 + 1), 5, none⟩ (.int .i64 0)).setCell ⟨(w.heap.size + 1 + 1), 6, none⟩ (.int .i64 0)).setCell ⟨(w.heap.size + 1 + 1), 7, none⟩ (.int .i64 0))).heap[g]? = Y.heap[g]? := fun g hg => set8_ne _ (by have := HSz.out; omega) _ _ _ _ _ _ _ _
    have hl := HLJ.out
    rw [HJK.out] at hl
    refine ⟨_, _, _, rfl, ⟨?_, ?_, ?_, ?_⟩, ?_⟩
    · rw [HJK.out, List.length_append]
      have h9 := (HYK.out.kept fun g hg => hfin g (HYK.out.lt g hg).1).rd
      have e9 : sc ks1 ++ sc b.keys = sc (ks1 ++ b.keys) := by simp [sc]
      rw [e9] at h9
      exact h9
    · show Rd _ _ _ _ (a.vals ++ b.vals).length (sc (a.vals ++ b.vals))
      rw [List.length_append]
      have h9 := (HYV.out.kept fun g hg => hfin g (HYV.out.lt g hg).1).rd
      have e9 : sc a.vals ++ sc b.vals = sc (a.vals ++ b.vals) := by simp [sc]
      rw [e9] at h9
      exact h9
    · show Rd _ _ _ _ (a.kids ++ b.kids).length (ic (a.kids ++ b.kids))
      rw [List.length_append]
      have h9 := (HYN.out.kept fun g hg => hfin g (HYN.out.lt g hg).1).rd
      have e9 : ic a.kids ++ ic b.kids = ic (a.kids ++ b.kids) := by simp [ic]
      rw [e9] at h9
      exact h9
    · rw [HJK.out]; exact hl
    · exact set8_below (HBw.out.trans (HYL.out.mono HSw.out)) (by omega) _ _ _ _ _ _ _ _
  · have kb : (a.kind == 2) = false := by simp [hk]
    obtain ⟨ks1, hks1⟩ : ∃ ks1, ks1 = a.keys := ⟨_, rfl⟩
    obtain ⟨K2, hK2⟩ : ∃ K2, K2 = K1 := ⟨_, rfl⟩
    obtain ⟨kc2, hc2⟩ : ∃ kc2, kc2 = kc := ⟨_, rfl⟩
    have HJK : Hid ((joinP a k b).keys = ks1 ++ b.keys) := Lib.hid (by unfold joinP; rw [hks1, if_neg hk])
    clear hk
    go_wp2_with fail
    clear f0 f1 f2 f3 f4 f5 f6 f7 f8
    obtain ⟨X, hX⟩ : ∃ X, X = W1.alloc (.cells #[.int .i64 a.kind, .slice K1 a.keys.length kc, .slice V1 a.vals.length vc, .slice N1 a.kids.length nc, .int .i64 0, .int .i64 0, .int .i64 0, .int .i64 0] 26) := ⟨_, rfl⟩
    rw [← hX]
    have HXL : Hid (Below W0.heap.size W0 X) := by rw [hX]; exact HX
    have HX7 : Hid (X.heap[W1.heap.size]? = some (.cells #[.int .i64 a.kind, .slice K2 ks1.length kc2, .slice V1 a.vals.length vc, .slice N1 a.kids.length nc, .int .i64 0, .int .i64 0, .int .i64 0, .int .i64 0] 26 (0, 0))) := by rw [hX, hK2, hc2, hks1]; exact heap_alloc_new W1 _
    have HXK : Hid (Own X W0.heap.size 9 1 (Value.slice K2 ks1.length kc2) ks1.length (sc ks1)) := by rw [hX, hK2, hc2, hks1]; exact Lib.hid (HO.out.keys.alloc _)
    have HXV : Hid (Own X W0.heap.size 9 1 (Value.slice V1 a.vals.length vc) a.vals.length (sc a.vals)) := by rw [hX]; exact Lib.hid (HO.out.vals.alloc _)
    have HXN : Hid (Own X W0.heap.size 3 1 (Value.slice N1 a.kids.length nc) a.kids.length (ic a.kids)) := by rw [hX]; exact Lib.hid (HO.out.kids.alloc _)
    have HXA : Hid (∀ g, (Value.slice K2 ks1.length kc2).ownBlock = some g → (Value.slice V1 a.vals.length vc).ownBlock ≠ some g) := by rw [hK2, hc2, hks1]; exact HO.out.apart
    clear hX
    obtain ⟨g7, hg7⟩ : ∃ g, g = W1.heap.size := ⟨_, rfl⟩
    have HG7 : Hid (W0.heap.size ≤ g7) := by rw [hg7]; exact HLW.out.size
    rw [← hg7] at HX7 ⊢
    clear hg7 hks1 hK2 hc2
    refine Held3.ways_start (fun i W W' => ((fun W : World => W.heap[w.heap.size + 1]? = some (.cells #[.int .i64 b.kind, .slice Bk b.keys.length dk, .slice Bv b.vals.length dv, .slice Bn b.kids.length dn, .int .i64 0, .int .i64 0, .int .i64 0, .int .i64 0] 26 (0, 0))) W → (fun W : World => W.heap[w.heap.size + 1]? = some (.cells #[.int .i64 b.kind, .slice Bk b.keys.length dk, .slice Bv b.vals.length dv, .slice Bn b.kids.length dn, .int .i64 0, .int .i64 0, .int .i64 0, .int .i64 0] 26 (0, 0))) W') ∧ (decide (i ≠ 16 ∧ i ≠ 18 ∧ i ≠ 20) = true → (fun W : World => W.heap[g7]? = some (.cells #[.int .i64 a.kind, .slice K2 ks1.length kc2, .slice V1 a.vals.length vc, .slice N1 a.kids.length nc, .int .i64 0, .int .i64 0, .int .i64 0, .int .i64 0] 26 (0, 0))) W → (fun W : World => W.heap[g7]? = some (.cells #[.int .i64 a.kind, .slice K2 ks1.length kc2, .slice V1 a.vals.length vc, .slice N1 a.kids.length nc, .int .i64 0, .int .i64 0, .int .i64 0, .int .i64 0] 26 (0, 0))) W')) (by kernel_rfl) ?_
    obtain ⟨D, hD⟩ : ∃ D, D = X.drew := ⟨_, rfl⟩
    rw [← hD]
    have HLD : Hid (Below W0.heap.size W0 D) := by rw [hD]; exact HXL.out.drew
    have HZD : Hid (D.heap[g7]? = some (.cells #[.int .i64 a.kind, .slice K2 ks1.length kc2, .slice V1 a.vals.length vc, .slice N1 a.kids.length nc, .int .i64 0, .int .i64 0, .int .i64 0, .int .i64 0] 26 (0, 0))) := by rw [hD]; exact HX7
    have HKD' : Hid (Own D W0.heap.size 9 1 (Value.slice K2 ks1.length kc2) ks1.length (sc ks1)) := by rw [hD]; exact Lib.hid HXK.out.drew
    have HVD : Hid (Own D W0.heap.size 9 1 (Value.slice V1 a.vals.length vc) a.vals.length (sc a.vals)) := by rw [hD]; exact Lib.hid HXV.out.drew
    have HND : Hid (Own D W0.heap.size 3 1 (Value.slice N1 a.kids.length nc) a.kids.length (ic a.kids)) := by rw [hD]; exact Lib.hid HXN.out.drew
    clear hD
    have HSD5 := HS5.out D HLD.out
    have HSD7 := HZD.out
    refine Held3.Ways.plain (i := 0) (oi := ?ox1) ?vx1 ?hix1 ?hsx1 ?hfx1 ?hrx1 ?hQx1 ?hyx1 (fun _ _ => ⟨id, fun _ => id⟩) ?restx1
    case hix1 => exact rfl
    case hsx1 => kernel_rfl
    case hfx1 => kernel_rfl
    case hrx1 => kernel_rfl
    case hQx1 => exact fun _ _ _ h => h
    case hyx1 =>
      refine .inl ⟨by rfl, fun W _ => ?_⟩
      go_simp
      try with_reducible rfl
    try simp only [Act.put, List.setIfInBounds_toArray, List.set_cons_zero, List.set_cons_succ]
    refine Held3.Ways.take (i := 1) (oi := ?ox2) (fun W : World => W.heap[g7]? = some (.cells #[.int .i64 a.kind, .slice K2 ks1.length kc2, .slice V1 a.vals.length vc, .slice N1 a.kids.length nc, .int .i64 0, .int .i64 0, .int .i64 0, .int .i64 0] 26 (0, 0))) (fun i => decide (i ≠ 16 ∧ i ≠ 18 ∧ i ≠ 20)) ?vx2 ?hix2 ?hsx2 ?hfx2 ?hlwx2 ?hrx2 ?hQx2 HSD7 ?hyx2 (fun _ _ _ h => h.2) (fun _ _ => ⟨id, fun _ => id⟩) ?restx2
    case hix2 => exact rfl
    case hsx2 => kernel_rfl
    case hfx2 => kernel_rfl
    case hlwx2 => kernel_rfl
    case hrx2 => kernel_rfl
    case hQx2 => exact fun _ _ _ h => h
    case hyx2 =>
      refine .inl ⟨by rfl, fun W hW => ?_⟩
      obtain ⟨f0, f1, f2, f3, f4, f5, f6, f7, f8⟩ := row8_facts hW
      go_simp
      try with_reducible rfl
    try simp only [Act.put, List.setIfInBounds_toArray, List.set_cons_zero, List.set_cons_succ]
    refine Held3.Ways.plain (i := 2) (oi := ?ox3) ?vx3 ?hix3 ?hsx3 ?hfx3 ?hrx3 ?hQx3 ?hyx3 (fun _ _ => ⟨id, fun _ => id⟩) ?restx3
    case hix3 => exact rfl
    case hsx3 => kernel_rfl
    case hfx3 => kernel_rfl
    case hrx3 => kernel_rfl
    case hQx3 => exact fun _ _ _ h => h
    case hyx3 =>
      refine .inl ⟨by rfl, fun W _ => ?_⟩
      go_simp
      try with_reducible rfl
    try simp only [Act.put, List.setIfInBounds_toArray, List.set_cons_zero, List.set_cons_succ]
    refine Held3.Ways.take (i := 3) (oi := ?ox4) (fun W : World => W.heap[w.heap.size + 1]? = some (.cells #[.int .i64 b.kind, .slice Bk b.keys.length dk, .slice Bv b.vals.length dv, .slice Bn b.kids.length dn, .int .i64 0, .int .i64 0, .int .i64 0, .int .i64 0] 26 (0, 0))) (fun _ => true) ?vx4 ?hix4 ?hsx4 ?hfx4 ?hlwx4 ?hrx4 ?hQx4 HSD5 ?hyx4 (fun _ _ _ h _ => h.1) (fun _ _ => ⟨id, fun _ => id⟩) ?restx4
    case hix4 => exact rfl
    case hsx4 => kernel_rfl
    case hfx4 => kernel_rfl
    case hlwx4 => kernel_rfl
    case hrx4 => kernel_rfl
    case hQx4 => exact fun _ _ _ h => h
    case hyx4 =>
      refine .inl ⟨by rfl, fun W hW => ?_⟩
      obtain ⟨f0, f1, f2, f3, f4, f5, f6, f7, f8⟩ := row8_facts hW
      go_simp
      try with_reducible rfl
    try simp only [Act.put, List.setIfInBounds_toArray, List.set_cons_zero, List.set_cons_succ]
    refine Held3.Ways.plain (i := 5) (oi := ?ox5) ?vx5 ?hix5 ?hsx5 ?hfx5 ?hrx5 ?hQx5 ?hyx5 (fun _ _ => ⟨id, fun _ => id⟩) ?restx5
    case hix5 => exact rfl
    case hsx5 => kernel_rfl
    case hfx5 => kernel_rfl
    case hrx5 => kernel_rfl
    case hQx5 => exact fun _ _ _ h => h
    case hyx5 =>
      refine .inl ⟨by rfl, fun W _ => ?_⟩
      go_simp
      try with_reducible rfl
    try simp only [Act.put, List.setIfInBounds_toArray, List.set_cons_zero, List.set_cons_succ]
    refine Held3.Ways.take (i := 6) (oi := ?ox6) (fun W : World => W.heap[g7]? = some (.cells #[.int .i64 a.kind, .slice K2 ks1.length kc2, .slice V1 a.vals.length vc, .slice N1 a.kids.length nc, .int .i64 0, .int .i64 0, .int .i64 0, .int .i64 0] 26 (0, 0))) (fun i => decide (i ≠ 16 ∧ i ≠ 18 ∧ i ≠ 20)) ?vx6 ?hix6 ?hsx6 ?hfx6 ?hlwx6 ?hrx6 ?hQx6 HSD7 ?hyx6 (fun _ _ _ h => h.2) (fun _ _ => ⟨id, fun _ => id⟩) ?restx6
    case hix6 => exact rfl
    case hsx6 => kernel_rfl
    case hfx6 => kernel_rfl
    case hlwx6 => kernel_rfl
    case hrx6 => kernel_rfl
    case hQx6 => exact fun _ _ _ h => h
    case hyx6 =>
      refine .inl ⟨by rfl, fun W hW => ?_⟩
      obtain ⟨f0, f1, f2, f3, f4, f5, f6, f7, f8⟩ := row8_facts hW
      go_simp
      try with_reducible rfl
    try simp only [Act.put, List.setIfInBounds_toArray, List.set_cons_zero, List.set_cons_succ]
    refine Held3.Ways.plain (i := 7) (oi := ?ox7) ?vx7 ?hix7 ?hsx7 ?hfx7 ?hrx7 ?hQx7 ?hyx7 (fun _ _ => ⟨id, fun _ => id⟩) ?restx7
    case hix7 => exact rfl
    case hsx7 => kernel_rfl
    case hfx7 => kernel_rfl
    case hrx7 => kernel_rfl
    case hQx7 => exact fun _ _ _ h => h
    case hyx7 =>
      refine .inl ⟨by rfl, fun W _ => ?_⟩
      go_simp
      try with_reducible rfl
    try simp only [Act.put, List.setIfInBounds_toArray, List.set_cons_zero, List.set_cons_succ]
    refine Held3.Ways.take (i := 8) (oi := ?ox8) (fun W : World => W.heap[w.heap.size + 1]? = some (.cells #[.int .i64 b.kind, .slice Bk b.keys.length dk, .slice Bv b.vals.length dv, .slice Bn b.kids.length dn, .int .i64 0, .int .i64 0, .int .i64 0, .int .i64 0] 26 (0, 0))) (fun _ => true) ?vx8 ?hix8 ?hsx8 ?hfx8 ?hlwx8 ?hrx8 ?hQx8 HSD5 ?hyx8 (fun _ _ _ h _ => h.1) (fun _ _ => ⟨id, fun _ => id⟩) ?restx8
    case hix8 => exact rfl
    case hsx8 => kernel_rfl
    case hfx8 => kernel_rfl
    case hlwx8 => kernel_rfl
    case hrx8 => kernel_rfl
    case hQx8 => exact fun _ _ _ h => h
    case hyx8 =>
      refine .inl ⟨by rfl, fun W hW => ?_⟩
      obtain ⟨f0, f1, f2, f3, f4, f5, f6, f7, f8⟩ := row8_facts hW
      go_simp
      try with_reducible rfl
    try simp only [Act.put, List.setIfInBounds_toArray, List.set_cons_zero, List.set_cons_succ]
    refine Held3.Ways.plain (i := 10) (oi := ?ox9) ?vx9 ?hix9 ?hsx9 ?hfx9 ?hrx9 ?hQx9 ?hyx9 (fun _ _ => ⟨id, fun _ => id⟩) ?restx9
    case hix9 => exact rfl
    case hsx9 => kernel_rfl
    case hfx9 => kernel_rfl
    case hrx9 => kernel_rfl
    case hQx9 => exact fun _ _ _ h => h
    case hyx9 =>
      refine .inl ⟨by rfl, fun W _ => ?_⟩
      go_simp
      try with_reducible rfl
    try simp only [Act.put, List.setIfInBounds_toArray, List.set_cons_zero, List.set_cons_succ]
    refine Held3.Ways.take (i := 11) (oi := ?ox10) (fun W : World => W.heap[g7]? = some (.cells #[.int .i64 a.kind, .slice K2 ks1.length kc2, .slice V1 a.vals.length vc, .slice N1 a.kids.length nc, .int .i64 0, .int .i64 0, .int .i64 0, .int .i64 0] 26 (0, 0))) (fun i => decide (i ≠ 16 ∧ i ≠ 18 ∧ i ≠ 20)) ?vx10 ?hix10 ?hsx10 ?hfx10 ?hlwx10 ?hrx10 ?hQx10 HSD7 ?hyx10 (fun _ _ _ h => h.2) (fun _ _ => ⟨id, fun _ => id⟩) ?restx10
    case hix10 => exact rfl
    case hsx10 => kernel_rfl
    case hfx10 => kernel_rfl
    case hlwx10 => kernel_rfl
    case hrx10 => kernel_rfl
    case hQx10 => exact fun _ _ _ h => h
    case hyx10 =>
      refine .inl ⟨by rfl, fun W hW => ?_⟩
      obtain ⟨f0, f1, f2, f3, f4, f5, f6, f7, f8⟩ := row8_facts hW
      go_simp
      try with_reducible rfl
    try simp only [Act.put, List.setIfInBounds_toArray, List.set_cons_zero, List.set_cons_succ]
    refine Held3.Ways.plain (i := 12) (oi := ?ox11) ?vx11 ?hix11 ?hsx11 ?hfx11 ?hrx11 ?hQx11 ?hyx11 (fun _ _ => ⟨id, fun _ => id⟩) ?restx11
    case hix11 => exact rfl
    case hsx11 => kernel_rfl
    case hfx11 => kernel_rfl
    case hrx11 => kernel_rfl
    case hQx11 => exact fun _ _ _ h => h
    case hyx11 =>
      refine .inl ⟨by rfl, fun W _ => ?_⟩
      go_simp
      try with_reducible rfl
    try simp only [Act.put, List.setIfInBounds_toArray, List.set_cons_zero, List.set_cons_succ]
    refine Held3.Ways.take (i := 13) (oi := ?ox12) (fun W : World => W.heap[w.heap.size + 1]? = some (.cells #[.int .i64 b.kind, .slice Bk b.keys.length dk, .slice Bv b.vals.length dv, .slice Bn b.kids.length dn, .int .i64 0, .int .i64 0, .int .i64 0, .int .i64 0] 26 (0, 0))) (fun _ => true) ?vx12 ?hix12 ?hsx12 ?hfx12 ?hlwx12 ?hrx12 ?hQx12 HSD5 ?hyx12 (fun _ _ _ h _ => h.1) (fun _ _ => ⟨id, fun _ => id⟩) ?restx12
    case hix12 => exact rfl
    case hsx12 => kernel_rfl
    case hfx12 => kernel_rfl
    case hlwx12 => kernel_rfl
    case hrx12 => kernel_rfl
    case hQx12 => exact fun _ _ _ h => h
    case hyx12 =>
      refine .inl ⟨by rfl, fun W hW => ?_⟩
      obtain ⟨f0, f1, f2, f3, f4, f5, f6, f7, f8⟩ := row8_facts hW
      go_simp
      try with_reducible rfl
    try simp only [Act.put, List.setIfInBounds_toArray, List.set_cons_zero, List.set_cons_succ]
    refine Held3.Ways.one (i := 4) (by rfl) (by kernel_rfl) (fun K hK => ?_)
    refine step_append rfl _ _ 22 22 rfl (by simp [Act.eval, Act.put]) (by simp [Act.eval, Act.put]) (app_gen (W := D) 22 22 Try.underlying22 SlS.ty (by decide) HKD'.out HLD.out.size (A := Bk) (m := b.keys.length) (c := dk) (ys := sc b.keys) (by simp [sc, ic]) (sc_one _) (rd_hy (HB.out D (HBw.out.trans (HLD.out.mono HSw.out))).keys) (by have h1 := HLJ.out; rw [HJK.out] at h1; simp [joinP] at h1; omega)) ?_
    rintro v X4 ⟨⟨AX4, cX4, rfl⟩, ho, hf, hb⟩
    have HFX4 := Lib.hid hf
    have HOX4 := Lib.hid ho
    have HBX4 := Lib.hid hb
    clear ho hf hb
    have HLX4 : Hid (Below W0.heap.size W0 X4) := HLD.out.trans (HFX4.out.below HLD.out.size fun g _ hg => (HKD'.out.lt g hg).1)
    have HZX4 : Hid (X4.heap[g7]? = some (.cells #[.int .i64 a.kind, .slice K2 ks1.length kc2, .slice V1 a.vals.length vc, .slice N1 a.kids.length nc, .int .i64 0, .int .i64 0, .int .i64 0, .int .i64 0] 26 (0, 0))) := HFX4.out.blk HZD.out (fun e => own_ne HKD'.out HZD.out (by decide) e)
    have HVX4 := Lib.hid (HVD.out.fr HFX4.out (fun g hv hk => HXA.out g hk hv))
    have HNX4 := Lib.hid (HND.out.fr HFX4.out (fun g hv hk => own_apart HKD'.out HND.out (by decide) g hk hv))
    have HAX4 : Hid (∀ g, (Value.slice AX4 (ks1.length + b.keys.length) cX4).ownBlock = some g → (Value.slice V1 a.vals.length vc).ownBlock ≠ some g) := fun g hg hv => by
      rcases HBX4.out with e | e
      · rw [e] at hg; exact HXA.out g hg hv
      · rw [e] at hg
        injection hg with hg
        have := (HVD.out.lt g hv).2
        omega
    refine hK.out _ _ ⟨fun _ => HS5.out _ HLX4.out, fun _ _ => HZX4.out⟩ ?_
    clear hK K
    try simp only [Act.put, List.setIfInBounds_toArray, List.set_cons_zero, List.set_cons_succ]
    refine Held3.Ways.plain (i := 15) (oi := ?ox13) ?vx13 ?hix13 ?hsx13 ?hfx13 ?hrx13 ?hQx13 ?hyx13 (fun _ _ => ⟨id, fun _ => id⟩) ?restx13
    case hix13 => exact rfl
    case hsx13 => kernel_rfl
    case hfx13 => kernel_rfl
    case hrx13 => kernel_rfl
    case hQx13 => exact fun _ _ _ h => h
    case hyx13 =>
      refine .inl ⟨by rfl, fun W _ => ?_⟩
      go_simp
      try with_reducible rfl
    try simp only [Act.put, List.setIfInBounds_toArray, List.set_cons_zero, List.set_cons_succ]
    refine Held3.Ways.one (i := 9) (by rfl) (by kernel_rfl) (fun K hK => ?_)
    refine step_append rfl _ _ 22 22 rfl (by simp [Act.eval, Act.put]) (by simp [Act.eval, Act.put]) (app_gen (W := X4) 22 22 Try.underlying22 SlS.ty (by decide) HVX4.out HLX4.out.size (A := Bv) (m := b.vals.length) (c := dv) (ys := sc b.vals) (by simp [sc, ic]) (sc_one _) (rd_hy (HB.out X4 (HBw.out.trans (HLX4.out.mono HSw.out))).vals) (by have h1 := HLJ.out; rw [HJK.out] at h1; simp [joinP] at h1; omega)) ?_
    rintro v X9 ⟨⟨AX9, cX9, rfl⟩, ho, hf, hb⟩
    have HFX9 := Lib.hid hf
    have HOX9 := Lib.hid ho
    have HBX9 := Lib.hid hb
    clear ho hf hb
    have HLX9 : Hid (Below W0.heap.size W0 X9) := HLX4.out.trans (HFX9.out.below HLX4.out.size fun g _ hg => (HVX4.out.lt g hg).1)
    have HZX9 : Hid (X9.heap[g7]? = some (.cells #[.int .i64 a.kind, .slice K2 ks1.length kc2, .slice V1 a.vals.length vc, .slice N1 a.kids.length nc, .int .i64 0, .int .i64 0, .int .i64 0, .int .i64 0] 26 (0, 0))) := HFX9.out.blk HZX4.out (fun e => own_ne HVX4.out HZX4.out (by decide) e)
    have HKX9 := Lib.hid (HOX4.out.fr HFX9.out (fun g hk hv => HAX4.out g hk hv))
    have HNX9 := Lib.hid (HNX4.out.fr HFX9.out (fun g hn hv => own_apart HVX4.out HNX4.out (by decide) g hv hn))
    refine hK.out _ _ ⟨fun _ => HS5.out _ HLX9.out, fun _ _ => HZX9.out⟩ ?_
    clear hK K
    try simp only [Act.put, List.setIfInBounds_toArray, List.set_cons_zero, List.set_cons_succ]
    refine Held3.Ways.one (i := 14) (by rfl) (by kernel_rfl) (fun K hK => ?_)
    refine step_append rfl _ _ 24 24 rfl (by simp [Act.eval, Act.put]) (by simp [Act.eval, Act.put]) (app_gen (W := X9) 24 24 Try.underlying24 SlI.ty (by decide) HNX9.out HLX9.out.size (A := Bn) (m := b.kids.length) (c := dn) (ys := ic b.kids) (by simp [sc, ic]) (ic_one _) (rd_hy (HB.out X9 (HBw.out.trans (HLX9.out.mono HSw.out))).kids) (by have h1 := HLJ.out; rw [HJK.out] at h1; simp [joinP] at h1; omega)) ?_
    rintro v X14 ⟨⟨AX14, cX14, rfl⟩, ho, hf, hb⟩
    have HFX14 := Lib.hid hf
    have HOX14 := Lib.hid ho
    have HBX14 := Lib.hid hb
    clear ho hf hb
    have HLX14 : Hid (Below W0.heap.size W0 X14) := HLX9.out.trans (HFX14.out.below HLX9.out.size fun g _ hg => (HNX9.out.lt g hg).1)
    have HZX14 : Hid (X14.heap[g7]? = some (.cells #[.int .i64 a.kind, .slice K2 ks1.length kc2, .slice V1 a.vals.length vc, .slice N1 a.kids.length nc, .int .i64 0, .int .i64 0, .int .i64 0, .int .i64 0] 26 (0, 0))) := HFX14.out.blk HZX9.out (fun e => own_ne HNX9.out HZX9.out (by decide) e)
    have HKX14 := Lib.hid (HKX9.out.fr HFX14.out (fun g hk hn => own_apart HKX9.out HNX9.out (by decide) g hk hn))
    have HVX14 := Lib.hid (HOX9.out.fr HFX14.out (fun g hv hn => own_apart HOX9.out HNX9.out (by decide) g hv hn))
    refine hK.out _ _ ⟨fun _ => HS5.out _ HLX14.out, fun _ _ => HZX14.out⟩ ?_
    clear hK K
    try simp only [Act.put, List.setIfInBounds_toArray, List.set_cons_zero, List.set_cons_succ]
    obtain ⟨f0, f1, f2, f3, f4, f5, f6, f7, f8⟩ := row8_facts HZX14.out
    have hne5 : w.heap.size + 1 ≠ g7 := by have := HSz.out; have := HG7.out; omega
    have HNE5 := Lib.hid hne5
    clear hne5
    refine Held3.Ways.one (i := 16) (by rfl) (by kernel_rfl) (fun K hK => ?_)
    go_simp
    refine hK.out _ _ ⟨fun h => (Below.heap_setCell _ _ _ _ HNE5.out).trans h, fun h => absurd h (by decide)⟩ ?_
    clear hK K
    try simp only [Act.put, List.setIfInBounds_toArray, List.set_cons_zero, List.set_cons_succ]
    refine Held3.Ways.plain (i := 17) (oi := ?ox14) ?vx14 ?hix14 ?hsx14 ?hfx14 ?hrx14 ?hQx14 ?hyx14 (fun _ _ => ⟨id, fun _ => id⟩) ?restx14
    case hix14 => exact rfl
    case hsx14 => kernel_rfl
    case hfx14 => kernel_rfl
    case hrx14 => kernel_rfl
    case hQx14 => exact fun _ _ _ h => h
    case hyx14 =>
      refine .inl ⟨by rfl, fun W _ => ?_⟩
      go_simp
      try with_reducible rfl
    try simp only [Act.put, List.setIfInBounds_toArray, List.set_cons_zero, List.set_cons_succ]
    refine Held3.Ways.one (i := 18) (by rfl) (by kernel_rfl) (fun K hK => ?_)
    go_simp
    refine hK.out _ _ ⟨fun h => (Below.heap_setCell _ _ _ _ HNE5.out).trans h, fun h => absurd h (by decide)⟩ ?_
    clear hK K
    try simp only [Act.put, List.setIfInBounds_toArray, List.set_cons_zero, List.set_cons_succ]
    refine Held3.Ways.plain (i := 19) (oi := ?ox15) ?vx15 ?hix15 ?hsx15 ?hfx15 ?hrx15 ?hQx15 ?hyx15 (fun _ _ => ⟨id, fun _ => id⟩) ?restx15
    case hix15 => exact rfl
    case hsx15 => kernel_rfl
    case hfx15 => kernel_rfl
    case hrx15 => kernel_rfl
    case hQx15 => exact fun _ _ _ h => h
    case hyx15 =>
      refine .inl ⟨by rfl, fun W _ => ?_⟩
      go_simp
      try with_reducible rfl
    try simp only [Act.put, List.setIfInBounds_toArray, List.set_cons_zero, List.set_cons_succ]
    refine Held3.Ways.one (i := 20) (by rfl) (by kernel_rfl) (fun K hK => ?_)
    go_simp
    refine hK.out _ _ ⟨fun h => (Below.heap_setCell _ _ _ _ HNE5.out).trans h, fun h => absurd h (by decide)⟩ ?_
    clear hK K
    try simp only [Act.put, List.setIfInBounds_toArray, List.set_cons_zero, List.set_cons_succ]
    refine Held3.Ways.done (by kernel_rfl) ?_ _
    clear f0 f1 f2 f3 f4 f5 f6 f7 f8 HSD5 HSD7
    obtain ⟨Y, hY⟩ : ∃ Y, Y = (((X14.setCell ⟨g7, 1, none⟩ (Value.slice AX4 (ks1.length + b.keys.length) cX4)).setCell ⟨g7, 2, none⟩ (Value.slice AX9 (a.vals.length + b.vals.length) cX9)).setCell ⟨g7, 3, none⟩ (Value.slice AX14 (a.kids.length + b.kids.length) cX14)) := ⟨_, rfl⟩
    rw [← hY]
    have hkeep : ∀ k, k ≠ g7 → Y.heap[k]? = X14.heap[k]? := fun k hk => by rw [hY]; exact (Below.heap_setCell _ _ _ _ hk).trans ((Below.heap_setCell _ _ _ _ hk).trans (Below.heap_setCell _ _ _ _ hk))
    have HYL : Hid (Below W0.heap.size W0 Y) := by rw [hY]; exact below_set (below_set (below_set HLX14.out HG7.out _) HG7.out _) HG7.out _
    have HY7 : Hid (Y.heap[g7]? = some (.cells #[.int .i64 a.kind, (Value.slice AX4 (ks1.length + b.keys.length) cX4), (Value.slice AX9 (a.vals.length + b.vals.length) cX9), (Value.slice AX14 (a.kids.length + b.kids.length) cX14), .int .i64 0, .int .i64 0, .int .i64 0, .int .i64 0] 26 (0, 0))) := by
      rw [hY]
      have h9 := heap_setCell_same _ g7 3 _ _ (Value.slice AX14 (a.kids.length + b.kids.length) cX14) (heap_setCell_same _ g7 2 _ _ (Value.slice AX9 (a.vals.length + b.vals.length) cX9) (heap_setCell_same X14 g7 1 _ _ (Value.slice AX4 (ks1.length + b.keys.length) cX4) HZX14.out))
      exact Lib.hid (by simpa using h9)
    have HYK := Lib.hid (HKX14.out.kept fun g hg => hkeep g fun e => own_ne HKX14.out HZX14.out (by decide) (e ▸ hg))
    have HYV := Lib.hid (HVX14.out.kept fun g hg => hkeep g fun e => own_ne HVX14.out HZX14.out (by decide) (e ▸ hg))
    have HYN := Lib.hid (HOX14.out.kept fun g hg => hkeep g fun e => own_ne HOX14.out HZX14.out (by decide) (e ▸ hg))
    clear hY hkeep
    obtain ⟨f0, f1, f2, f3, f4, f5, f6, f7, f8⟩ := row8_facts HY7.out
    obtain ⟨z0, z1, z2, z3, z4, z5, z6, z7, z8⟩ := row8_facts (HS6.out Y HYL.out)
    go_wp2_with fail
    clear f0 f1 f2 f3 f4 f5 f6 f7 f8 z0 z1 z2 z3 z4 z5 z6 z7 z8
    refine bodyPost_ret (results_cell_row rfl _ _ (w.heap.size + 1 + 1) 26 _ (0, 0) _ rfl (row8_set (HS6.out Y HYL.out) _ _ _ _ _ _ _ _) Try.underlying26 rfl rfl) rfl ?_
    have hfin : ∀ g, W0.heap.size ≤ g → (((((((((Y.setCell ⟨(w.heap.size + 1 + 1), 0, none⟩ (.int .i64 a.kind)).setCell ⟨(w.heap.size + 1 + 1), 1, none⟩ ((Value.slice AX4 (ks1.length + b.keys.length) cX4))).setCell ⟨(w.heap.size + 1 + 1), 2, none⟩ ((Value.slice AX9 (a.vals.length + b.vals.length) cX9))).setCell ⟨(w.heap.size + 1 + 1), 3, none⟩ ((Value.slice AX14 (a.kids.length + b.kids.length) cX14))).setCell ⟨(w.heap.size + 1 + 1), 4, none⟩ (.int .i64 0)).setCell ⟨(w.heap.size + 1 + 1), 5, none⟩ (.int .i64 0)).setCell ⟨(w.heap.size + 1 + 1), 6, none⟩ (.int .i64 0)).setCell ⟨(w.heap.size + 1 + 1), 7, none⟩ (.int .i64 0))).heap[g]? = Y.heap[g]? := fun g hg => set8_ne _ (by have := HSz.out; omega) _ _ _ _ _ _ _ _
    have hl := HLJ.out
    rw [HJK.out] at hl
    refine ⟨_, _, _, rfl, ⟨?_, ?_, ?_, ?_⟩, ?_⟩
    · rw [HJK.out, List.length_append]
      have h9 := (HYK.out.kept fun g hg => hfin g (HYK.out.lt g hg).1).rd
      have e9 : sc ks1 ++ sc b.keys = sc (ks1 ++ b.keys) := by simp [sc]
      rw [e9] at h9
      exact h9
    · show Rd _ _ _ _ (a.vals ++ b.vals).length (sc (a.vals ++ b.vals))
      rw [List.length_append]
      have h9 := (HYV.out.kept fun g hg => hfin g (HYV.out.lt g hg).1).rd
      have e9 : sc a.vals ++ sc b.vals = sc (a.vals ++ b.vals) := by simp [sc]
      rw [e9] at h9
      exact h9
    · show Rd _ _ _ _ (a.kids ++ b.kids).length (ic (a.kids ++ b.kids))
      rw [List.length_append]
      have h9 := (HYN.out.kept fun g hg => hfin g (HYN.out.lt g hg).1).rd
      have e9 : ic a.kids ++ ic b.kids = ic (a.kids ++ b.kids) := by simp [ic]
      rw [e9] at h9
      exact h9
    · rw [HJK.out]; exact hl
    · exact set8_below (HBw.out.trans (HYL.out.mono HSw.out)) (by omega) _ _ _ _ _ _ _ _
#print axioms join_any
end Go.Proofs.Ytfhpgmgmofganaa.NodeA
