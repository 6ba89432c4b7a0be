/- Split: a page as two. -/
import Derived.Test.YtfhpgmgmofganaaNodeP
import Derived.Test.YtfhpgmgmofganaaHeld2
import Derived.Test.YtfhpgmgmofganaaRes
import Derived.Deep.Cut
import Derived.Deep.CutRange
set_option linter.unusedVariables false
set_option linter.unusedSimpArgs false
set_option linter.unusedSectionVars false
namespace Go.Proofs.Ytfhpgmgmofganaa.NodeA
open Go.RowKit Go.WideShapes Go.Deep Go.Proofs.Ytfhpgmgmofganaa.Mem Go.Proofs.Ytfhpgmgmofganaa.Open Go.Proofs.Ytfhpgmgmofganaa.Kv
theorem PgO.base_ {w : World} {base base' : Nat} {kv vv nv : Value} {p : Pg} (h : PgO w base kv vv nv p) (hb : base' ≤ base) : PgO w base' kv vv nv p :=
  ⟨h.keys.base_ fun g hg => Nat.le_trans hb (h.keys.lt g hg).1, h.vals.base_ fun g hg => Nat.le_trans hb (h.vals.lt g hg).1, h.kids.base_ fun g hg => Nat.le_trans hb (h.kids.lt g hg).1, h.lens, h.apart⟩
theorem PgO.drew {w : World} {base : Nat} {kv vv nv : Value} {p : Pg} (h : PgO w base kv vv nv p) : PgO w.drew base kv vv nv p := ⟨h.keys.drew, h.vals.drew, h.kids.drew, h.lens, h.apart⟩
theorem PgO.kept {w w' : World} {base : Nat} {kv vv nv : Value} {p : Pg} (h : PgO w base kv vv nv p) (hk : ∀ k, base ≤ k → w'.heap[k]? = w.heap[k]?) : PgO w' base kv vv nv p :=
  ⟨h.keys.kept fun k hv => hk k (h.keys.lt k hv).1, h.vals.kept fun k hv => hk k (h.vals.lt k hv).1, h.kids.kept fun k hv => hk k (h.kids.lt k hv).1, h.lens, h.apart⟩
theorem own_ne {w : World} {base k n : Nat} {e : TypeId} {v : Value} {xs : List Value} (h : Own w base e k v n xs) {g : Nat} {cs : Array Value} {t : TypeId} {fr : Nat × Nat} (hg : w.heap[g]? = some (.cells cs t fr)) (hne : t ≠ e) : v.ownBlock ≠ some g := by
  intro hv
  rcases h.2 with ⟨rfl, _⟩ | ⟨g', off, cap, cur, rfl, _, hh, _⟩
  · simp [Value.ownBlock] at hv
  · simp [Value.ownBlock] at hv
    subst hv
    rw [hg] at hh
    injection hh with hh
    injection hh with _ h2 _
    exact hne h2
/-- A block of eight cells laid anew: the others stay. -/
theorem set8_ne (X : World) {g k : Nat} (hk : k ≠ g) (a b c d e f g1 h : Value) : ((((((((X.setCell ⟨g, 0, none⟩ a).setCell ⟨g, 1, none⟩ b).setCell ⟨g, 2, none⟩ c).setCell ⟨g, 3, none⟩ d).setCell ⟨g, 4, none⟩ e).setCell ⟨g, 5, none⟩ f).setCell ⟨g, 6, none⟩ g1).setCell ⟨g, 7, none⟩ h).heap[k]? = X.heap[k]? := by
  refine Eq.trans (Below.heap_setCell _ _ _ _ hk) (Eq.trans (Below.heap_setCell _ _ _ _ hk) (Eq.trans (Below.heap_setCell _ _ _ _ hk) (Eq.trans (Below.heap_setCell _ _ _ _ hk) ?_)))
  exact Eq.trans (Below.heap_setCell _ _ _ _ hk) (Eq.trans (Below.heap_setCell _ _ _ _ hk) (Eq.trans (Below.heap_setCell _ _ _ _ hk) (Below.heap_setCell _ _ _ _ hk)))
theorem set8_below {B : Nat} {a X : World} (hb : Below B a X) {g : Nat} (hg : B ≤ g) (a0 b c d e f g1 h : Value) : Below B a ((((((((X.setCell ⟨g, 0, none⟩ a0).setCell ⟨g, 1, none⟩ b).setCell ⟨g, 2, none⟩ c).setCell ⟨g, 3, none⟩ d).setCell ⟨g, 4, none⟩ e).setCell ⟨g, 5, none⟩ f).setCell ⟨g, 6, none⟩ g1).setCell ⟨g, 7, none⟩ h) := by
  refine below_set (below_set (below_set (below_set ?_ hg _) hg _) hg _) hg _
  exact below_set (below_set (below_set (below_set hb hg _) hg _) hg _) hg _
theorem PgO.keep {w w' : World} {base : Nat} {kv vv nv : Value} {p : Pg} (h : PgO w base kv vv nv p) {g : Nat} {cs : Array Value} {fr : Nat × Nat} (hg : w.heap[g]? = some (.cells cs 26 fr)) (hk : ∀ k, k ≠ g → w'.heap[k]? = w.heap[k]?) : PgO w' base kv vv nv p :=
  ⟨h.keys.kept fun k hv => hk k fun e => own_ne h.keys hg (by decide) (e ▸ hv), h.vals.kept fun k hv => hk k fun e => own_ne h.vals hg (by decide) (e ▸ hv), h.kids.kept fun k hv => hk k fun e => own_ne h.kids hg (by decide) (e ▸ hv), h.lens, h.apart⟩
theorem own_some {w : World} {base k n c : Nat} {e : TypeId} {A : Option Addr} {xs : List Value} (h : Own w base e k (.slice A n c) n xs) (h0 : 0 < n) : ∃ g off, A = some ⟨g, off, none⟩ ∧ n ≤ c ∧ base ≤ g ∧ g < w.heap.size := by
  obtain ⟨g, off, cap, cur, e1, hb, hg, hn, _⟩ := h.form h0
  injection e1 with e1 _ e3
  subst e1 e3
  exact ⟨g, off, rfl, hn, hb, (Array.getElem?_eq_some_iff.1 hg).1⟩
/-- A struct's variable, a temporary, and another struct's variable. -/
theorem results_row_tmp_row {P : Program} {fn : Func} {p u q : Tmp} {ty : TypeId} (h : fn.results = #[.cell p ty, .tmp u, .cell q ty]) (tmps : Array Value) (w : World) {g g2 : Nat} {t : TypeId} {cs cs2 : Array Value} {fr fr2 : Nat × Nat} {d : TypeDesc}
    (hg : w.heap[g]? = some (.cells cs t fr)) (hp : tmps.getD p undef = .pointer (some ⟨g, 0, none⟩)) (hg2 : w.heap[g2]? = some (.cells cs2 t fr2)) (hq : tmps.getD q undef = .pointer (some ⟨g2, 0, none⟩))
    (hu : P.underlying ty = some d) (hd : (match d with | .struct _ | .array _ _ => true | _ => false) = true) (hi : (P.info? ty).map (·.size) = some cs.size) (hi2 : (P.info? ty).map (·.size) = some cs2.size) :
    (results fn tmps).run P w = .ok (.tuple #[.agg cs, tmps.getD u undef, .agg cs2]) w := by
  have r1 := run_loadVar_row w g t ty cs fr d hg hu hd hi
  have r2 := run_loadVar_row w g2 t ty cs2 fr2 d hg2 hu hd hi2
  have hp' : tmps[p]?.getD undef = .pointer (some ⟨g, 0, none⟩) := by simpa using hp
  have hq' : tmps[q]?.getD undef = .pointer (some ⟨g2, 0, none⟩) := by simpa using hq
  simp only [results, h]
  simp [Sem.run_bind, Result.andThen, hp', hq', asAddr, r1, r2]
theorem rd_take {w : World} {B n c i : Nat} {A : Option Addr} {xs : List Value} (h : Rd w B 1 (.slice A n c) n xs) (hi : i ≤ n) : Rd w B 1 (.slice A i c) i (xs.take i) := by
  obtain ⟨hl, A', c', e, hn, hc, ha⟩ := h
  injection e with e1 _ e3
  subst e1 e3
  refine ⟨by simp; omega, A, c, rfl, by omega, hc, fun h0 => ?_⟩
  obtain ⟨g, off, rfl, hg, hx⟩ := ha (by omega)
  refine ⟨g, off, rfl, hg, fun j u hu => hx j u ?_⟩
  rw [List.getElem?_take] at hu
  split at hu
  · exact hu
  · cases hu
theorem rd_drop {w : World} {B n c i g off : Nat} {xs : List Value} (h : Rd w B 1 (.slice (some ⟨g, off, none⟩) n c) n xs) (hi : i < n) : Rd w B 1 (.slice (some ⟨g, off + i, none⟩) (n - i) (c - i)) (n - i) (xs.drop i) := by
  obtain ⟨hl, A', c', e, hn, hc, ha⟩ := h
  injection e with e1 _ e3
  subst e1 e3
  refine ⟨by simp; omega, _, _, rfl, by omega, by omega, fun h0 => ?_⟩
  obtain ⟨g', off', e1, hg, hx⟩ := ha (by omega)
  injection e1 with e1
  injection e1 with e1 e2
  subst e1 e2
  refine ⟨g, off + i, rfl, hg, fun j u hu => ?_⟩
  rw [Nat.add_assoc]
  exact hx (i + j) u (by rw [List.getElem?_drop] at hu; exact hu)
theorem rd_take_s {w : World} {B c i : Nat} {A : Option Addr} {ks : List S} (h : Rd w B 1 (.slice A ks.length c) ks.length (sc ks)) (hi : i ≤ ks.length) : Rd w B 1 (.slice A i c) (ks.take i).length (sc (ks.take i)) := by
  have h9 := rd_take h hi
  have e1 : (ks.take i).length = i := by simp; omega
  have e2 : sc (ks.take i) = (sc ks).take i := by simp [sc, List.map_take]
  rw [e1, e2]; exact h9
theorem rd_take_i {w : World} {B c i : Nat} {A : Option Addr} {ks : List Int} (h : Rd w B 1 (.slice A ks.length c) ks.length (ic ks)) (hi : i ≤ ks.length) : Rd w B 1 (.slice A i c) (ks.take i).length (ic (ks.take i)) := by
  have h9 := rd_take h hi
  have e1 : (ks.take i).length = i := by simp; omega
  have e2 : ic (ks.take i) = (ic ks).take i := by simp [ic, List.map_take]
  rw [e1, e2]; exact h9
theorem rd_drop_s {w : World} {B c i g off : Nat} {ks : List S} (h : Rd w B 1 (.slice (some ⟨g, off, none⟩) ks.length c) ks.length (sc ks)) (hi : i < ks.length) : Rd w B 1 (.slice (some ⟨g, off + i, none⟩) (ks.length - i) (c - i)) (ks.drop i).length (sc (ks.drop i)) := by
  have h9 := rd_drop h hi
  have e1 : (ks.drop i).length = ks.length - i := by simp
  have e2 : sc (ks.drop i) = (sc ks).drop i := by simp [sc, List.map_drop]
  rw [e1, e2]; exact h9
theorem rd_drop_i {w : World} {B c i g off : Nat} {ks : List Int} (h : Rd w B 1 (.slice (some ⟨g, off, none⟩) ks.length c) ks.length (ic ks)) (hi : i < ks.length) : Rd w B 1 (.slice (some ⟨g, off + i, none⟩) (ks.length - i) (c - i)) (ks.drop i).length (ic (ks.drop i)) := by
  have h9 := rd_drop h hi
  have e1 : (ks.drop i).length = ks.length - i := by simp
  have e2 : ic (ks.drop i) = (ic ks).drop i := by simp [ic, List.map_drop]
  rw [e1, e2]; exact h9
/-- Where a page is split. -/
def cutAt (p : Pg) : Nat := if p.kind = 1 then p.keys.length / 2 else p.kids.length / 2
def midS (p : Pg) : S := if p.kind = 1 then p.keys.getD (cutAt p) E0 else p.keys.getD (cutAt p - 1) E0
def leftP (p : Pg) : Pg := if p.kind = 1 then ⟨p.kind, p.keys.take (cutAt p), p.vals.take (cutAt p), p.kids⟩ else ⟨p.kind, p.keys.take (cutAt p - 1), p.vals, p.kids.take (cutAt p)⟩
def rightP (p : Pg) : Pg := if p.kind = 1 then ⟨p.kind, p.keys.drop (cutAt p), p.vals.drop (cutAt p), p.kids⟩ else ⟨p.kind, p.keys.drop (cutAt p), p.vals, p.kids.drop (cutAt p)⟩
set_option maxHeartbeats 2000000 in
set_option maxRecDepth 100000 in
theorem split_any {kv vv nv : Value} {p : Pg} (w : World) (h : PgR w kv vv nv p) (hk : p.kind = 1 ∧ 2 ≤ p.keys.length ∧ p.vals.length = p.keys.length ∨ p.kind = 2 ∧ 4 ≤ p.kids.length ∧ p.kids.length = p.keys.length + 1) :
    Calls Try.prog 12 #[pv p.kind kv vv nv] w fun e w' => ∃ ka va na kb vb nb, e = .returned (.tuple #[pv p.kind ka va na, .string (midS p), pv p.kind kb vb nb]) ∧ PgR w' ka va na (leftP p) ∧ PgR w' kb vb nb (rightP p) ∧ Below w.heap.size w w' := by
  obtain ⟨Ak, ck, Av, cv, An, cn, rfl, rfl, rfl⟩ := h.forms
  have HC : Hid (∀ X, Below w.heap.size w X → Calls Try.prog 11 #[pv p.kind (.slice Ak p.keys.length ck) (.slice Av p.vals.length cv) (.slice An p.kids.length cn)] X fun e w' => ∃ kv' vv' nv', e = .returned (pv p.kind kv' vv' nv') ∧ PgO w' X.heap.size kv' vv' nv' p ∧ Below X.heap.size X w') := fun X hb => clone_any X (h.up hb)
  have HLENS := Lib.hid h.lens
  have HP : Hid (∀ X, Below w.heap.size w X → PgR X (.slice Ak p.keys.length ck) (.slice Av p.vals.length cv) (.slice An p.kids.length cn) p) := fun X hb => h.up hb
  have HKIND := Lib.hid hk
  clear hk
  clear h
  unfold pv at *
  go_enter Try.func12, Try.ntmps12
  go_upto_region 1 with fail
  obtain ⟨W0, hW0⟩ : ∃ W0, W0 = ((w.alloc (.cells #[.int .i64 p.kind, .slice Ak p.keys.length ck, .slice Av p.vals.length cv, .slice An p.kids.length cn, .int .i64 0, .int .i64 0, .int .i64 0, .int .i64 0] 26)).alloc (.cells #[.int .i64 0, .slice none 0 0, .slice none 0 0, .slice none 0 0, .int .i64 0, .int .i64 0, .int .i64 0, .int .i64 0] 26)).alloc (.cells #[.int .i64 0, .slice none 0 0, .slice none 0 0, .slice none 0 0, .int .i64 0, .int .i64 0, .int .i64 0, .int .i64 0] 26) := ⟨_, rfl⟩
  rw [← hW0]
  have HSz : Hid (W0.heap.size = w.heap.size + 3) := Lib.hid (by rw [hW0]; simp)
  have HSw : Hid (w.heap.size ≤ W0.heap.size) := Lib.hid (by have := HSz.out; omega)
  have HBw : Hid (Below w.heap.size w W0) := by rw [hW0]; exact (((Below.refl _ w).alloc (Nat.le_refl _) _).alloc (by simp) _).alloc (by simp; omega) _
  have HR1 : Hid (W0.heap[w.heap.size]? = some (.cells #[.int .i64 p.kind, .slice Ak p.keys.length ck, .slice Av p.vals.length cv, .slice An p.kids.length cn, .int .i64 0, .int .i64 0, .int .i64 0, .int .i64 0] 26 (0, 0))) := by
    rw [hW0, Below.heap_alloc _ _ _ (by simp; omega), Below.heap_alloc _ _ _ (by simp)]; exact heap_alloc_new w _
  have HR2 : Hid (W0.heap[w.heap.size + 1]? = some (.cells #[.int .i64 0, .slice none 0 0, .slice none 0 0, .slice none 0 0, .int .i64 0, .int .i64 0, .int .i64 0, .int .i64 0] 26 (0, 0))) := by
    rw [hW0, Below.heap_alloc _ _ _ (by simp)]
    have h9 := heap_alloc_new (w.alloc (.cells #[.int .i64 p.kind, .slice Ak p.keys.length ck, .slice Av p.vals.length cv, .slice An p.kids.length cn, .int .i64 0, .int .i64 0, .int .i64 0, .int .i64 0] 26)) (.cells #[.int .i64 0, .slice none 0 0, .slice none 0 0, .slice none 0 0, .int .i64 0, .int .i64 0, .int .i64 0, .int .i64 0] 26)
    rw [World.size_alloc] at h9
    exact h9
  have HR4 : Hid (W0.heap[w.heap.size + 2]? = some (.cells #[.int .i64 0, .slice none 0 0, .slice none 0 0, .slice none 0 0, .int .i64 0, .int .i64 0, .int .i64 0, .int .i64 0] 26 (0, 0))) := by
    rw [hW0]
    have h9 := heap_alloc_new ((w.alloc (.cells #[.int .i64 p.kind, .slice Ak p.keys.length ck, .slice Av p.vals.length cv, .slice An p.kids.length cn, .int .i64 0, .int .i64 0, .int .i64 0, .int .i64 0] 26)).alloc (.cells #[.int .i64 0, .slice none 0 0, .slice none 0 0, .slice none 0 0, .int .i64 0, .int .i64 0, .int .i64 0, .int .i64 0] 26)) (.cells #[.int .i64 0, .slice none 0 0, .slice none 0 0, .slice none 0 0, .int .i64 0, .int .i64 0, .int .i64 0, .int .i64 0] 26)
    rw [World.size_alloc, World.size_alloc] at h9
    exact h9
  clear hW0
  have HS : Hid (∀ X, Below W0.heap.size W0 X → X.heap[w.heap.size]? = some (.cells #[.int .i64 p.kind, .slice Ak p.keys.length ck, .slice Av p.vals.length cv, .slice An p.kids.length cn, .int .i64 0, .int .i64 0, .int .i64 0, .int .i64 0] 26 (0, 0))) := fun X hb => (hb.block _ (by rw [HSz.out]; omega)).trans HR1.out
  go_cut [5, 6] from 5 to 13 (fun s5 s6 wx => ∃ g5 g6 ka va na kb vb nb, s5 = .pointer (some ⟨g5, 0, none⟩) ∧ s6 = .pointer (some ⟨g6, 0, none⟩) ∧ PgO wx W0.heap.size ka va na p ∧ PgO wx W0.heap.size kb vb nb p ∧ g5 ≠ g6 ∧ W0.heap.size ≤ g5 ∧ W0.heap.size ≤ g6 ∧ wx.heap[g5]? = some (.cells #[.int .i64 p.kind, ka, va, na, .int .i64 0, .int .i64 0, .int .i64 0, .int .i64 0] 26 (0, 0)) ∧ wx.heap[g6]? = some (.cells #[.int .i64 p.kind, kb, vb, nb, .int .i64 0, .int .i64 0, .int .i64 0, .int .i64 0] 26 (0, 0)) ∧ Below W0.heap.size W0 wx)
  case first =>
    refine Held2.ways_start (fun W => W.heap[w.heap.size]? = some (.cells #[.int .i64 p.kind, .slice Ak p.keys.length ck, .slice Av p.vals.length cv, .slice An p.kids.length cn, .int .i64 0, .int .i64 0, .int .i64 0, .int .i64 0] 26 (0, 0))) (fun _ => true) (by kernel_rfl) ?_
    obtain ⟨D, hD⟩ : ∃ D, D = W0.drew := ⟨_, rfl⟩
    rw [← hD]
    have HBD : Hid (Below W0.heap.size W0 D) := by rw [hD]; exact (Below.refl _ W0).drew
    clear hD
    have HSD := HS.out D HBD.out
    refine Held2.Ways.take (i := 0) (oi := ?o1) ?v1 ?hi1 ?hs1 ?hf1 ?hlw1 ?hr1 ?hQ1 HSD ?hy1 ?rest1
    case hi1 => exact rfl
    case hs1 => kernel_rfl
    case hf1 => kernel_rfl
    case hlw1 => kernel_rfl
    case hr1 => kernel_rfl
    case hQ1 => exact fun _ _ _ h => h
    case hy1 =>
      refine .inl ⟨by rfl, fun W hW => ?_⟩
      obtain ⟨f0, f1, f2, f3, f4, f5, f6, f7, f8⟩ := row8_facts hW
      go_simp
      try with_reducible rfl
    try simp only [Act.put, List.setIfInBounds_toArray, List.set_cons_zero, List.set_cons_succ]
    refine Held2.Ways.take (i := 2) (oi := ?o2) ?v2 ?hi2 ?hs2 ?hf2 ?hlw2 ?hr2 ?hQ2 HSD ?hy2 ?rest2
    case hi2 => exact rfl
    case hs2 => kernel_rfl
    case hf2 => kernel_rfl
    case hlw2 => kernel_rfl
    case hr2 => kernel_rfl
    case hQ2 => exact fun _ _ _ h => h
    case hy2 =>
      refine .inl ⟨by rfl, fun W hW => ?_⟩
      obtain ⟨f0, f1, f2, f3, f4, f5, f6, f7, f8⟩ := row8_facts hW
      go_simp
      try with_reducible rfl
    try simp only [Act.put, List.setIfInBounds_toArray, List.set_cons_zero, List.set_cons_succ]
    clear HSD
    refine Held2.Ways.three (i := 1) (j := 4) (l := 5) (by rfl) (by rfl) (by rfl) (by kernel_rfl) (fun K hK => ?_) (fun K hK => ?_) (fun K hK => ?_)
    · go_simp
      go_at_call 11
      refine (HC.out D (HBw.out.trans (HBD.out.mono HSw.out))).mono ?_
      rintro e D1 ⟨kva, vva, nva, rfl, ho, hb⟩
      obtain ⟨Aka, cka, Ava, cva, Ana, cna, rfl, rfl, rfl⟩ := ho.rd.forms
      have HLD1 := Lib.hid hb
      have HOaD1 := Lib.hid (ho.base_ HBD.out.size)
      have HBD1 := Lib.hid (HBD.out.trans (hb.mono HBD.out.size))
      clear ho hb
      dsimp only
      refine hK.out _ _ (fun _ _ => HS.out _ HBD1.out) ?_
      clear hK K
      try simp only [Act.put, List.setIfInBounds_toArray, List.set_cons_zero, List.set_cons_succ]
      refine Held2.Ways.three (i := 3) (j := 4) (l := 5) (by rfl) (by rfl) (by rfl) (by kernel_rfl) (fun K hK => ?_) (fun K hK => ?_) (fun K hK => ?_)
      · go_simp
        go_at_call 11
        refine (HC.out D1 (HBw.out.trans (HBD1.out.mono HSw.out))).mono ?_
        rintro e D13 ⟨kvb, vvb, nvb, rfl, ho, hb⟩
        obtain ⟨Akb, ckb, Avb, cvb, Anb, cnb, rfl, rfl, rfl⟩ := ho.rd.forms
        have HLD13 := Lib.hid hb
        have HObD13 := Lib.hid (ho.base_ HBD1.out.size)
        have HBD13 := Lib.hid (HBD1.out.trans (hb.mono HBD1.out.size))
        clear ho hb
        have HOaD13 := Lib.hid (HOaD1.out.below HLD13.out)
        dsimp only
        refine hK.out _ _ (fun _ _ => HS.out _ HBD13.out) ?_
        clear hK K
        try simp only [Act.put, List.setIfInBounds_toArray, List.set_cons_zero, List.set_cons_succ]
        refine Held2.Ways.two (i := 4) (j := 5) (by rfl) (by rfl) (by kernel_rfl) (fun K hK => ?_) (fun K hK => ?_)
        · go_simp
          refine hK.out _ _ (fun _ _ => HS.out _ (HBD13.out.alloc HBD13.out.size _)) ?_
          clear hK K
          try simp only [Act.put, List.setIfInBounds_toArray, List.set_cons_zero, List.set_cons_succ]
          obtain ⟨D134, hD134⟩ : ∃ V, V = D13.alloc (.cells #[.int .i64 0, .slice none 0 0, .slice none 0 0, .slice none 0 0, .int .i64 0, .int .i64 0, .int .i64 0, .int .i64 0] 26) := ⟨_, rfl⟩
          rw [← hD134]
          have HLD134 : Hid (Below D13.heap.size D13 D134) := by rw [hD134]; exact (Below.refl _ _).alloc (Nat.le_refl _) _
          have HBD134 : Hid (Below W0.heap.size W0 D134) := HBD13.out.trans (HLD134.out.mono HBD13.out.size)
          obtain ⟨g4, hg4⟩ : ∃ g, g = D13.heap.size := ⟨_, rfl⟩
          rw [← hg4]
          have HG4 := Lib.hid hg4
          have HZ4D134 : Hid (D134.heap[g4]? = some (.cells #[.int .i64 0, .slice none 0 0, .slice none 0 0, .slice none 0 0, .int .i64 0, .int .i64 0, .int .i64 0, .int .i64 0] 26 (0, 0))) := by rw [hD134, hg4]; exact heap_alloc_new _ _
          clear hD134 hg4
          have HOaD134 := Lib.hid (HOaD13.out.below HLD134.out)
          have HObD134 := Lib.hid (HObD13.out.below HLD134.out)
          refine Held2.Ways.one (i := 5) (by rfl) (by kernel_rfl) (fun K hK => ?_)
          go_simp
          refine hK.out _ _ (fun _ _ => HS.out _ (HBD134.out.alloc HBD134.out.size _)) ?_
          clear hK K
          try simp only [Act.put, List.setIfInBounds_toArray, List.set_cons_zero, List.set_cons_succ]
          obtain ⟨D1345, hD1345⟩ : ∃ V, V = D134.alloc (.cells #[.int .i64 0, .slice none 0 0, .slice none 0 0, .slice none 0 0, .int .i64 0, .int .i64 0, .int .i64 0, .int .i64 0] 26) := ⟨_, rfl⟩
          rw [← hD1345]
          have HLD1345 : Hid (Below D134.heap.size D134 D1345) := by rw [hD1345]; exact (Below.refl _ _).alloc (Nat.le_refl _) _
          have HBD1345 : Hid (Below W0.heap.size W0 D1345) := HBD134.out.trans (HLD1345.out.mono HBD134.out.size)
          obtain ⟨g5, hg5⟩ : ∃ g, g = D134.heap.size := ⟨_, rfl⟩
          rw [← hg5]
          have HG5 := Lib.hid hg5
          have HZ5D1345 : Hid (D1345.heap[g5]? = some (.cells #[.int .i64 0, .slice none 0 0, .slice none 0 0, .slice none 0 0, .int .i64 0, .int .i64 0, .int .i64 0, .int .i64 0] 26 (0, 0))) := by rw [hD1345, hg5]; exact heap_alloc_new _ _
          clear hD1345 hg5
          have HOaD1345 := Lib.hid (HOaD134.out.below HLD1345.out)
          have HObD1345 := Lib.hid (HObD134.out.below HLD1345.out)
          have HZ4D1345 := Lib.hid ((HLD1345.out.block _ (Array.getElem?_eq_some_iff.1 HZ4D134.out).1).trans HZ4D134.out)
          refine Held2.Ways.one (i := 6) (by rfl) (by kernel_rfl) (fun K hK => ?_)
          have HNE : Hid (g4 ≠ g5) := fun e => by
            have h1 := HG4.out
            have h2 := HG5.out
            have h3 := (Array.getElem?_eq_some_iff.1 HZ4D134.out).1
            omega
          obtain ⟨f0, f1, f2, f3, f4, f5, f6, f7, f8⟩ := row8_facts HZ4D1345.out
          go_simp
          refine hK.out _ _ (fun _ _ => HS.out _ (set8_below HBD1345.out (by rw [HG4.out]; exact HBD13.out.size) _ _ _ _ _ _ _ _)) ?_
          clear hK K
          try simp only [Act.put, List.setIfInBounds_toArray, List.set_cons_zero, List.set_cons_succ]
          clear f0 f1 f2 f3 f4 f5 f6 f7 f8
          obtain ⟨D13456, hD13456⟩ : ∃ V, V = ((((((((D1345.setCell ⟨g4, 0, none⟩ (.int .i64 p.kind)).setCell ⟨g4, 1, none⟩ (.slice Aka p.keys.length cka)).setCell ⟨g4, 2, none⟩ (.slice Ava p.vals.length cva)).setCell ⟨g4, 3, none⟩ (.slice Ana p.kids.length cna)).setCell ⟨g4, 4, none⟩ (.int .i64 0)).setCell ⟨g4, 5, none⟩ (.int .i64 0)).setCell ⟨g4, 6, none⟩ (.int .i64 0)).setCell ⟨g4, 7, none⟩ (.int .i64 0)) := ⟨_, rfl⟩
          rw [← hD13456]
          have HND13456 : Hid (∀ k, k ≠ g4 → D13456.heap[k]? = D1345.heap[k]?) := fun k hk => by rw [hD13456]; exact set8_ne _ hk _ _ _ _ _ _ _ _
          have HBD13456 : Hid (Below W0.heap.size W0 D13456) := by rw [hD13456]; exact set8_below HBD1345.out (by rw [HG4.out]; exact HBD13.out.size) _ _ _ _ _ _ _ _
          have HZ4D13456 : Hid (D13456.heap[g4]? = some (.cells #[.int .i64 p.kind, .slice Aka p.keys.length cka, .slice Ava p.vals.length cva, .slice Ana p.kids.length cna, .int .i64 0, .int .i64 0, .int .i64 0, .int .i64 0] 26 (0, 0))) := by rw [hD13456]; exact row8_set HZ4D1345.out _ _ _ _ _ _ _ _
          have HZ5D13456 := Lib.hid ((HND13456.out g5 (Ne.symm HNE.out)).trans HZ5D1345.out)
          have HOaD13456 := Lib.hid (HOaD1345.out.keep HZ4D1345.out HND13456.out)
          have HObD13456 := Lib.hid (HObD1345.out.keep HZ4D1345.out HND13456.out)
          clear hD13456
          refine Held2.Ways.one (i := 7) (by rfl) (by kernel_rfl) (fun K hK => ?_)
          obtain ⟨f0, f1, f2, f3, f4, f5, f6, f7, f8⟩ := row8_facts HZ5D13456.out
          go_simp
          refine hK.out _ _ (fun _ _ => HS.out _ (set8_below HBD13456.out (by rw [HG5.out]; exact HBD134.out.size) _ _ _ _ _ _ _ _)) ?_
          clear hK K
          try simp only [Act.put, List.setIfInBounds_toArray, List.set_cons_zero, List.set_cons_succ]
          clear f0 f1 f2 f3 f4 f5 f6 f7 f8
          obtain ⟨D134567, hD134567⟩ : ∃ V, V = ((((((((D13456.setCell ⟨g5, 0, none⟩ (.int .i64 p.kind)).setCell ⟨g5, 1, none⟩ (.slice Akb p.keys.length ckb)).setCell ⟨g5, 2, none⟩ (.slice Avb p.vals.length cvb)).setCell ⟨g5, 3, none⟩ (.slice Anb p.kids.length cnb)).setCell ⟨g5, 4, none⟩ (.int .i64 0)).setCell ⟨g5, 5, none⟩ (.int .i64 0)).setCell ⟨g5, 6, none⟩ (.int .i64 0)).setCell ⟨g5, 7, none⟩ (.int .i64 0)) := ⟨_, rfl⟩
          rw [← hD134567]
          have HND134567 : Hid (∀ k, k ≠ g5 → D134567.heap[k]? = D13456.heap[k]?) := fun k hk => by rw [hD134567]; exact set8_ne _ hk _ _ _ _ _ _ _ _
          have HBD134567 : Hid (Below W0.heap.size W0 D134567) := by rw [hD134567]; exact set8_below HBD13456.out (by rw [HG5.out]; exact HBD134.out.size) _ _ _ _ _ _ _ _
          have HZ5D134567 : Hid (D134567.heap[g5]? = some (.cells #[.int .i64 p.kind, .slice Akb p.keys.length ckb, .slice Avb p.vals.length cvb, .slice Anb p.kids.length cnb, .int .i64 0, .int .i64 0, .int .i64 0, .int .i64 0] 26 (0, 0))) := by rw [hD134567]; exact row8_set HZ5D13456.out _ _ _ _ _ _ _ _
          have HZ4D134567 := Lib.hid ((HND134567.out g4 HNE.out).trans HZ4D13456.out)
          have HOaD134567 := Lib.hid (HOaD13456.out.keep HZ5D13456.out HND134567.out)
          have HObD134567 := Lib.hid (HObD13456.out.keep HZ5D13456.out HND134567.out)
          clear hD134567
          refine Held2.Ways.done (by kernel_rfl) ?_ _
          go_wp2_with fail
          go_meet
          case rel => exact ⟨g4, g5, _, _, _, _, _, _, rfl, rfl, HOaD134567.out, HObD134567.out, HNE.out, by rw [HG4.out]; exact HBD13.out.size, by rw [HG5.out]; exact HBD134.out.size, HZ4D134567.out, HZ5D134567.out, HBD134567.out⟩
        · go_simp
          refine hK.out _ _ (fun _ _ => HS.out _ (HBD13.out.alloc HBD13.out.size _)) ?_
          clear hK K
          try simp only [Act.put, List.setIfInBounds_toArray, List.set_cons_zero, List.set_cons_succ]
          obtain ⟨D135, hD135⟩ : ∃ V, V = D13.alloc (.cells #[.int .i64 0, .slice none 0 0, .slice none 0 0, .slice none 0 0, .int .i64 0, .int .i64 0, .int .i64 0, .int .i64 0] 26) := ⟨_, rfl⟩
          rw [← hD135]
          have HLD135 : Hid (Below D13.heap.size D13 D135) := by rw [hD135]; exact (Below.refl _ _).alloc (Nat.le_refl _) _
          have HBD135 : Hid (Below W0.heap.size W0 D135) := HBD13.out.trans (HLD135.out.mono HBD13.out.size)
          obtain ⟨g5, hg5⟩ : ∃ g, g = D13.heap.size := ⟨_, rfl⟩
          rw [← hg5]
          have HG5 := Lib.hid hg5
          have HZ5D135 : Hid (D135.heap[g5]? = some (.cells #[.int .i64 0, .slice none 0 0, .slice none 0 0, .slice none 0 0, .int .i64 0, .int .i64 0, .int .i64 0, .int .i64 0] 26 (0, 0))) := by rw [hD135, hg5]; exact heap_alloc_new _ _
          clear hD135 hg5
          have HOaD135 := Lib.hid (HOaD13.out.below HLD135.out)
          have HObD135 := Lib.hid (HObD13.out.below HLD135.out)
          refine Held2.Ways.one (i := 4) (by rfl) (by kernel_rfl) (fun K hK => ?_)
          go_simp
          refine hK.out _ _ (fun _ _ => HS.out _ (HBD135.out.alloc HBD135.out.size _)) ?_
          clear hK K
          try simp only [Act.put, List.setIfInBounds_toArray, List.set_cons_zero, List.set_cons_succ]
          obtain ⟨D1354, hD1354⟩ : ∃ V, V = D135.alloc (.cells #[.int .i64 0, .slice none 0 0, .slice none 0 0, .slice none 0 0, .int .i64 0, .int .i64 0, .int .i64 0, .int .i64 0] 26) := ⟨_, rfl⟩
          rw [← hD1354]
          have HLD1354 : Hid (Below D135.heap.size D135 D1354) := by rw [hD1354]; exact (Below.refl _ _).alloc (Nat.le_refl _) _
          have HBD1354 : Hid (Below W0.heap.size W0 D1354) := HBD135.out.trans (HLD1354.out.mono HBD135.out.size)
          obtain ⟨g4, hg4⟩ : ∃ g, g = D135.heap.size := ⟨_, rfl⟩
          rw [← hg4]
          have HG4 := Lib.hid hg4
          have HZ4D1354 : Hid (D1354.heap[g4]? = some (.cells #[.int .i64 0, .slice none 0 0, .slice none 0 0, .slice none 0 0, .int .i64 0, .int .i64 0, .int .i64 0, .int .i64 0] 26 (0, 0))) := by rw [hD1354, hg4]; exact heap_alloc_new _ _
          clear hD1354 hg4
          have HOaD1354 := Lib.hid (HOaD135.out.below HLD1354.out)
          have HObD1354 := Lib.hid (HObD135.out.below HLD1354.out)
          have HZ5D1354 := Lib.hid ((HLD1354.out.block _ (Array.getElem?_eq_some_iff.1 HZ5D135.out).1).trans HZ5D135.out)
          refine Held2.Ways.one (i := 6) (by rfl) (by kernel_rfl) (fun K hK => ?_)
          have HNE : Hid (g4 ≠ g5) := fun e => by
            have h1 := HG4.out
            have h2 := HG5.out
            have h3 := (Array.getElem?_eq_some_iff.1 HZ5D135.out).1
            omega
          obtain ⟨f0, f1, f2, f3, f4, f5, f6, f7, f8⟩ := row8_facts HZ4D1354.out
          go_simp
          refine hK.out _ _ (fun _ _ => HS.out _ (set8_below HBD1354.out (by rw [HG4.out]; exact HBD135.out.size) _ _ _ _ _ _ _ _)) ?_
          clear hK K
          try simp only [Act.put, List.setIfInBounds_toArray, List.set_cons_zero, List.set_cons_succ]
          clear f0 f1 f2 f3 f4 f5 f6 f7 f8
          obtain ⟨D13546, hD13546⟩ : ∃ V, V = ((((((((D1354.setCell ⟨g4, 0, none⟩ (.int .i64 p.kind)).setCell ⟨g4, 1, none⟩ (.slice Aka p.keys.length cka)).setCell ⟨g4, 2, none⟩ (.slice Ava p.vals.length cva)).setCell ⟨g4, 3, none⟩ (.slice Ana p.kids.length cna)).setCell ⟨g4, 4, none⟩ (.int .i64 0)).setCell ⟨g4, 5, none⟩ (.int .i64 0)).setCell ⟨g4, 6, none⟩ (.int .i64 0)).setCell ⟨g4, 7, none⟩ (.int .i64 0)) := ⟨_, rfl⟩
          rw [← hD13546]
          have HND13546 : Hid (∀ k, k ≠ g4 → D13546.heap[k]? = D1354.heap[k]?) := fun k hk => by rw [hD13546]; exact set8_ne _ hk _ _ _ _ _ _ _ _
          have HBD13546 : Hid (Below W0.heap.size W0 D13546) := by rw [hD13546]; exact set8_below HBD1354.out (by rw [HG4.out]; exact HBD135.out.size) _ _ _ _ _ _ _ _
          have HZ4D13546 : Hid (D13546.heap[g4]? = some (.cells #[.int .i64 p.kind, .slice Aka p.keys.length cka, .slice Ava p.vals.length cva, .slice Ana p.kids.length cna, .int .i64 0, .int .i64 0, .int .i64 0, .int .i64 0] 26 (0, 0))) := by rw [hD13546]; exact row8_set HZ4D1354.out _ _ _ _ _ _ _ _
          have HZ5D13546 := Lib.hid ((HND13546.out g5 (Ne.symm HNE.out)).trans HZ5D1354.out)
          have HOaD13546 := Lib.hid (HOaD1354.out.keep HZ4D1354.out HND13546.out)
          have HObD13546 := Lib.hid (HObD1354.out.keep HZ4D1354.out HND13546.out)
          clear hD13546
          refine Held2.Ways.one (i := 7) (by rfl) (by kernel_rfl) (fun K hK => ?_)
          obtain ⟨f0, f1, f2, f3, f4, f5, f6, f7, f8⟩ := row8_facts HZ5D13546.out
          go_simp
          refine hK.out _ _ (fun _ _ => HS.out _ (set8_below HBD13546.out (by rw [HG5.out]; exact HBD13.out.size) _ _ _ _ _ _ _ _)) ?_
          clear hK K
          try simp only [Act.put, List.setIfInBounds_toArray, List.set_cons_zero, List.set_cons_succ]
          clear f0 f1 f2 f3 f4 f5 f6 f7 f8
          obtain ⟨D135467, hD135467⟩ : ∃ V, V = ((((((((D13546.setCell ⟨g5, 0, none⟩ (.int .i64 p.kind)).setCell ⟨g5, 1, none⟩ (.slice Akb p.keys.length ckb)).setCell ⟨g5, 2, none⟩ (.slice Avb p.vals.length cvb)).setCell ⟨g5, 3, none⟩ (.slice Anb p.kids.length cnb)).setCell ⟨g5, 4, none⟩ (.int .i64 0)).setCell ⟨g5, 5, none⟩ (.int .i64 0)).setCell ⟨g5, 6, none⟩ (.int .i64 0)).setCell ⟨g5, 7, none⟩ (.int .i64 0)) := ⟨_, rfl⟩
          rw [← hD135467]
          have HND135467 : Hid (∀ k, k ≠ g5 → D135467.heap[k]? = D13546.heap[k]?) := fun k hk => by rw [hD135467]; exact set8_ne _ hk _ _ _ _ _ _ _ _
          have HBD135467 : Hid (Below W0.heap.size W0 D135467) := by rw [hD135467]; exact set8_below HBD13546.out (by rw [HG5.out]; exact HBD13.out.size) _ _ _ _ _ _ _ _
          have HZ5D135467 : Hid (D135467.heap[g5]? = some (.cells #[.int .i64 p.kind, .slice Akb p.keys.length ckb, .slice Avb p.vals.length cvb, .slice Anb p.kids.length cnb, .int .i64 0, .int .i64 0, .int .i64 0, .int .i64 0] 26 (0, 0))) := by rw [hD135467]; exact row8_set HZ5D13546.out _ _ _ _ _ _ _ _
          have HZ4D135467 := Lib.hid ((HND135467.out g4 HNE.out).trans HZ4D13546.out)
          have HOaD135467 := Lib.hid (HOaD13546.out.keep HZ5D13546.out HND135467.out)
          have HObD135467 := Lib.hid (HObD13546.out.keep HZ5D13546.out HND135467.out)
          clear hD135467
          refine Held2.Ways.done (by kernel_rfl) ?_ _
          go_wp2_with fail
          go_meet
          case rel => exact ⟨g4, g5, _, _, _, _, _, _, rfl, rfl, HOaD135467.out, HObD135467.out, HNE.out, by rw [HG4.out]; exact HBD135.out.size, by rw [HG5.out]; exact HBD13.out.size, HZ4D135467.out, HZ5D135467.out, HBD135467.out⟩
      · go_simp
        refine hK.out _ _ (fun _ _ => HS.out _ (HBD1.out.alloc HBD1.out.size _)) ?_
        clear hK K
        try simp only [Act.put, List.setIfInBounds_toArray, List.set_cons_zero, List.set_cons_succ]
        obtain ⟨D14, hD14⟩ : ∃ V, V = D1.alloc (.cells #[.int .i64 0, .slice none 0 0, .slice none 0 0, .slice none 0 0, .int .i64 0, .int .i64 0, .int .i64 0, .int .i64 0] 26) := ⟨_, rfl⟩
        rw [← hD14]
        have HLD14 : Hid (Below D1.heap.size D1 D14) := by rw [hD14]; exact (Below.refl _ _).alloc (Nat.le_refl _) _
        have HBD14 : Hid (Below W0.heap.size W0 D14) := HBD1.out.trans (HLD14.out.mono HBD1.out.size)
        obtain ⟨g4, hg4⟩ : ∃ g, g = D1.heap.size := ⟨_, rfl⟩
        rw [← hg4]
        have HG4 := Lib.hid hg4
        have HZ4D14 : Hid (D14.heap[g4]? = some (.cells #[.int .i64 0, .slice none 0 0, .slice none 0 0, .slice none 0 0, .int .i64 0, .int .i64 0, .int .i64 0, .int .i64 0] 26 (0, 0))) := by rw [hD14, hg4]; exact heap_alloc_new _ _
        clear hD14 hg4
        have HOaD14 := Lib.hid (HOaD1.out.below HLD14.out)
        refine Held2.Ways.two (i := 3) (j := 5) (by rfl) (by rfl) (by kernel_rfl) (fun K hK => ?_) (fun K hK => ?_)
        · go_simp
          go_at_call 11
          refine (HC.out D14 (HBw.out.trans (HBD14.out.mono HSw.out))).mono ?_
          rintro e D143 ⟨kvb, vvb, nvb, rfl, ho, hb⟩
          obtain ⟨Akb, ckb, Avb, cvb, Anb, cnb, rfl, rfl, rfl⟩ := ho.rd.forms
          have HLD143 := Lib.hid hb
          have HObD143 := Lib.hid (ho.base_ HBD14.out.size)
          have HBD143 := Lib.hid (HBD14.out.trans (hb.mono HBD14.out.size))
          clear ho hb
          have HOaD143 := Lib.hid (HOaD14.out.below HLD143.out)
          have HZ4D143 := Lib.hid ((HLD143.out.block _ (Array.getElem?_eq_some_iff.1 HZ4D14.out).1).trans HZ4D14.out)
          dsimp only
          refine hK.out _ _ (fun _ _ => HS.out _ HBD143.out) ?_
          clear hK K
          try simp only [Act.put, List.setIfInBounds_toArray, List.set_cons_zero, List.set_cons_succ]
          refine Held2.Ways.one (i := 5) (by rfl) (by kernel_rfl) (fun K hK => ?_)
          go_simp
          refine hK.out _ _ (fun _ _ => HS.out _ (HBD143.out.alloc HBD143.out.size _)) ?_
          clear hK K
          try simp only [Act.put, List.setIfInBounds_toArray, List.set_cons_zero, List.set_cons_succ]
          obtain ⟨D1435, hD1435⟩ : ∃ V, V = D143.alloc (.cells #[.int .i64 0, .slice none 0 0, .slice none 0 0, .slice none 0 0, .int .i64 0, .int .i64 0, .int .i64 0, .int .i64 0] 26) := ⟨_, rfl⟩
          rw [← hD1435]
          have HLD1435 : Hid (Below D143.heap.size D143 D1435) := by rw [hD1435]; exact (Below.refl _ _).alloc (Nat.le_refl _) _
          have HBD1435 : Hid (Below W0.heap.size W0 D1435) := HBD143.out.trans (HLD1435.out.mono HBD143.out.size)
          obtain ⟨g5, hg5⟩ : ∃ g, g = D143.heap.size := ⟨_, rfl⟩
          rw [← hg5]
          have HG5 := Lib.hid hg5
          have HZ5D1435 : Hid (D1435.heap[g5]? = some (.cells #[.int .i64 0, .slice none 0 0, .slice none 0 0, .slice none 0 0, .int .i64 0, .int .i64 0, .int .i64 0, .int .i64 0] 26 (0, 0))) := by rw [hD1435, hg5]; exact heap_alloc_new _ _
          clear hD1435 hg5
          have HOaD1435 := Lib.hid (HOaD143.out.below HLD1435.out)
          have HZ4D1435 := Lib.hid ((HLD1435.out.block _ (Array.getElem?_eq_some_iff.1 HZ4D143.out).1).trans HZ4D143.out)
          have HObD1435 := Lib.hid (HObD143.out.below HLD1435.out)
          refine Held2.Ways.one (i := 6) (by rfl) (by kernel_rfl) (fun K hK => ?_)
          have HNE : Hid (g4 ≠ g5) := fun e => by
            have h1 := HG4.out
            have h2 := HG5.out
            have h3 := (Array.getElem?_eq_some_iff.1 HZ4D143.out).1
            omega
          obtain ⟨f0, f1, f2, f3, f4, f5, f6, f7, f8⟩ := row8_facts HZ4D1435.out
          go_simp
          refine hK.out _ _ (fun _ _ => HS.out _ (set8_below HBD1435.out (by rw [HG4.out]; exact HBD1.out.size) _ _ _ _ _ _ _ _)) ?_
          clear hK K
          try simp only [Act.put, List.setIfInBounds_toArray, List.set_cons_zero, List.set_cons_succ]
          clear f0 f1 f2 f3 f4 f5 f6 f7 f8
          obtain ⟨D14356, hD14356⟩ : ∃ V, V = ((((((((D1435.setCell ⟨g4, 0, none⟩ (.int .i64 p.kind)).setCell ⟨g4, 1, none⟩ (.slice Aka p.keys.length cka)).setCell ⟨g4, 2, none⟩ (.slice Ava p.vals.length cva)).setCell ⟨g4, 3, none⟩ (.slice Ana p.kids.length cna)).setCell ⟨g4, 4, none⟩ (.int .i64 0)).setCell ⟨g4, 5, none⟩ (.int .i64 0)).setCell ⟨g4, 6, none⟩ (.int .i64 0)).setCell ⟨g4, 7, none⟩ (.int .i64 0)) := ⟨_, rfl⟩
          rw [← hD14356]
          have HND14356 : Hid (∀ k, k ≠ g4 → D14356.heap[k]? = D1435.heap[k]?) := fun k hk => by rw [hD14356]; exact set8_ne _ hk _ _ _ _ _ _ _ _
          have HBD14356 : Hid (Below W0.heap.size W0 D14356) := by rw [hD14356]; exact set8_below HBD1435.out (by rw [HG4.out]; exact HBD1.out.size) _ _ _ _ _ _ _ _
          have HZ4D14356 : Hid (D14356.heap[g4]? = some (.cells #[.int .i64 p.kind, .slice Aka p.keys.length cka, .slice Ava p.vals.length cva, .slice Ana p.kids.length cna, .int .i64 0, .int .i64 0, .int .i64 0, .int .i64 0] 26 (0, 0))) := by rw [hD14356]; exact row8_set HZ4D1435.out _ _ _ _ _ _ _ _
          have HZ5D14356 := Lib.hid ((HND14356.out g5 (Ne.symm HNE.out)).trans HZ5D1435.out)
          have HOaD14356 := Lib.hid (HOaD1435.out.keep HZ4D1435.out HND14356.out)
          have HObD14356 := Lib.hid (HObD1435.out.keep HZ4D1435.out HND14356.out)
          clear hD14356
          refine Held2.Ways.one (i := 7) (by rfl) (by kernel_rfl) (fun K hK => ?_)
          obtain ⟨f0, f1, f2, f3, f4, f5, f6, f7, f8⟩ := row8_facts HZ5D14356.out
          go_simp
          refine hK.out _ _ (fun _ _ => HS.out _ (set8_below HBD14356.out (by rw [HG5.out]; exact HBD143.out.size) _ _ _ _ _ _ _ _)) ?_
          clear hK K
          try simp only [Act.put, List.setIfInBounds_toArray, List.set_cons_zero, List.set_cons_succ]
          clear f0 f1 f2 f3 f4 f5 f6 f7 f8
          obtain ⟨D143567, hD143567⟩ : ∃ V, V = ((((((((D14356.setCell ⟨g5, 0, none⟩ (.int .i64 p.kind)).setCell ⟨g5, 1, none⟩ (.slice Akb p.keys.length ckb)).setCell ⟨g5, 2, none⟩ (.slice Avb p.vals.length cvb)).setCell ⟨g5, 3, none⟩ (.slice Anb p.kids.length cnb)).setCell ⟨g5, 4, none⟩ (.int .i64 0)).setCell ⟨g5, 5, none⟩ (.int .i64 0)).setCell ⟨g5, 6, none⟩ (.int .i64 0)).setCell ⟨g5, 7, none⟩ (.int .i64 0)) := ⟨_, rfl⟩
          rw [← hD143567]
          have HND143567 : Hid (∀ k, k ≠ g5 → D143567.heap[k]? = D14356.heap[k]?) := fun k hk => by rw [hD143567]; exact set8_ne _ hk _ _ _ _ _ _ _ _
          have HBD143567 : Hid (Below W0.heap.size W0 D143567) := by rw [hD143567]; exact set8_below HBD14356.out (by rw [HG5.out]; exact HBD143.out.size) _ _ _ _ _ _ _ _
          have HZ5D143567 : Hid (D143567.heap[g5]? = some (.cells #[.int .i64 p.kind, .slice Akb p.keys.length ckb, .slice Avb p.vals.length cvb, .slice Anb p.kids.length cnb, .int .i64 0, .int .i64 0, .int .i64 0, .int .i64 0] 26 (0, 0))) := by rw [hD143567]; exact row8_set HZ5D14356.out _ _ _ _ _ _ _ _
          have HZ4D143567 := Lib.hid ((HND143567.out g4 HNE.out).trans HZ4D14356.out)
          have HOaD143567 := Lib.hid (HOaD14356.out.keep HZ5D14356.out HND143567.out)
          have HObD143567 := Lib.hid (HObD14356.out.keep HZ5D14356.out HND143567.out)
          clear hD143567
          refine Held2.Ways.done (by kernel_rfl) ?_ _
          go_wp2_with fail
          go_meet
          case rel => exact ⟨g4, g5, _, _, _, _, _, _, rfl, rfl, HOaD143567.out, HObD143567.out, HNE.out, by rw [HG4.out]; exact HBD1.out.size, by rw [HG5.out]; exact HBD143.out.size, HZ4D143567.out, HZ5D143567.out, HBD143567.out⟩
        · go_simp
          refine hK.out _ _ (fun _ _ => HS.out _ (HBD14.out.alloc HBD14.out.size _)) ?_
          clear hK K
          try simp only [Act.put, List.setIfInBounds_toArray, List.set_cons_zero, List.set_cons_succ]
          obtain ⟨D145, hD145⟩ : ∃ V, V = D14.alloc (.cells #[.int .i64 0, .slice none 0 0, .slice none 0 0, .slice none 0 0, .int .i64 0, .int .i64 0, .int .i64 0, .int .i64 0] 26) := ⟨_, rfl⟩
          rw [← hD145]
          have HLD145 : Hid (Below D14.heap.size D14 D145) := by rw [hD145]; exact (Below.refl _ _).alloc (Nat.le_refl _) _
          have HBD145 : Hid (Below W0.heap.size W0 D145) := HBD14.out.trans (HLD145.out.mono HBD14.out.size)
          obtain ⟨g5, hg5⟩ : ∃ g, g = D14.heap.size := ⟨_, rfl⟩
          rw [← hg5]
          have HG5 := Lib.hid hg5
          have HZ5D145 : Hid (D145.heap[g5]? = some (.cells #[.int .i64 0, .slice none 0 0, .slice none 0 0, .slice none 0 0, .int .i64 0, .int .i64 0, .int .i64 0, .int .i64 0] 26 (0, 0))) := by rw [hD145, hg5]; exact heap_alloc_new _ _
          clear hD145 hg5
          have HOaD145 := Lib.hid (HOaD14.out.below HLD145.out)
          have HZ4D145 := Lib.hid ((HLD145.out.block _ (Array.getElem?_eq_some_iff.1 HZ4D14.out).1).trans HZ4D14.out)
          refine Held2.Ways.one (i := 3) (by rfl) (by kernel_rfl) (fun K hK => ?_)
          go_simp
          go_at_call 11
          refine (HC.out D145 (HBw.out.trans (HBD145.out.mono HSw.out))).mono ?_
          rintro e D1453 ⟨kvb, vvb, nvb, rfl, ho, hb⟩
          obtain ⟨Akb, ckb, Avb, cvb, Anb, cnb, rfl, rfl, rfl⟩ := ho.rd.forms
          have HLD1453 := Lib.hid hb
          have HObD1453 := Lib.hid (ho.base_ HBD145.out.size)
          have HBD1453 := Lib.hid (HBD145.out.trans (hb.mono HBD145.out.size))
          clear ho hb
          have HOaD1453 := Lib.hid (HOaD145.out.below HLD1453.out)
          have HZ4D1453 := Lib.hid ((HLD1453.out.block _ (Array.getElem?_eq_some_iff.1 HZ4D145.out).1).trans HZ4D145.out)
          have HZ5D1453 := Lib.hid ((HLD1453.out.block _ (Array.getElem?_eq_some_iff.1 HZ5D145.out).1).trans HZ5D145.out)
          dsimp only
          refine hK.out _ _ (fun _ _ => HS.out _ HBD1453.out) ?_
          clear hK K
          try simp only [Act.put, List.setIfInBounds_toArray, List.set_cons_zero, List.set_cons_succ]
          refine Held2.Ways.one (i := 6) (by rfl) (by kernel_rfl) (fun K hK => ?_)
          have HNE : Hid (g4 ≠ g5) := fun e => by
            have h1 := HG4.out
            have h2 := HG5.out
            have h3 := (Array.getElem?_eq_some_iff.1 HZ4D14.out).1
            omega
          obtain ⟨f0, f1, f2, f3, f4, f5, f6, f7, f8⟩ := row8_facts HZ4D1453.out
          go_simp
          refine hK.out _ _ (fun _ _ => HS.out _ (set8_below HBD1453.out (by rw [HG4.out]; exact HBD1.out.size) _ _ _ _ _ _ _ _)) ?_
          clear hK K
          try simp only [Act.put, List.setIfInBounds_toArray, List.set_cons_zero, List.set_cons_succ]
          clear f0 f1 f2 f3 f4 f5 f6 f7 f8
          obtain ⟨D14536, hD14536⟩ : ∃ V, V = ((((((((D1453.setCell ⟨g4, 0, none⟩ (.int .i64 p.kind)).setCell ⟨g4, 1, none⟩ (.slice Aka p.keys.length cka)).setCell ⟨g4, 2, none⟩ (.slice Ava p.vals.length cva)).setCell ⟨g4, 3, none⟩ (.slice Ana p.kids.length cna)).setCell ⟨g4, 4, none⟩ (.int .i64 0)).setCell ⟨g4, 5, none⟩ (.int .i64 0)).setCell ⟨g4, 6, none⟩ (.int .i64 0)).setCell ⟨g4, 7, none⟩ (.int .i64 0)) := ⟨_, rfl⟩
          rw [← hD14536]
          have HND14536 : Hid (∀ k, k ≠ g4 → D14536.heap[k]? = D1453.heap[k]?) := fun k hk => by rw [hD14536]; exact set8_ne _ hk _ _ _ _ _ _ _ _
          have HBD14536 : Hid (Below W0.heap.size W0 D14536) := by rw [hD14536]; exact set8_below HBD1453.out (by rw [HG4.out]; exact HBD1.out.size) _ _ _ _ _ _ _ _
          have HZ4D14536 : Hid (D14536.heap[g4]? = some (.cells #[.int .i64 p.kind, .slice Aka p.keys.length cka, .slice Ava p.vals.length cva, .slice Ana p.kids.length cna, .int .i64 0, .int .i64 0, .int .i64 0, .int .i64 0] 26 (0, 0))) := by rw [hD14536]; exact row8_set HZ4D1453.out _ _ _ _ _ _ _ _
          have HZ5D14536 := Lib.hid ((HND14536.out g5 (Ne.symm HNE.out)).trans HZ5D1453.out)
          have HOaD14536 := Lib.hid (HOaD1453.out.keep HZ4D1453.out HND14536.out)
          have HObD14536 := Lib.hid (HObD1453.out.keep HZ4D1453.out HND14536.out)
          clear hD14536
          refine Held2.Ways.one (i := 7) (by rfl) (by kernel_rfl) (fun K hK => ?_)
          obtain ⟨f0, f1, f2, f3, f4, f5, f6, f7, f8⟩ := row8_facts HZ5D14536.out
          go_simp
          refine hK.out _ _ (fun _ _ => HS.out _ (set8_below HBD14536.out (by rw [HG5.out]; exact HBD14.out.size) _ _ _ _ _ _ _ _)) ?_
          clear hK K
          try simp only [Act.put, List.setIfInBounds_toArray, List.set_cons_zero, List.set_cons_succ]
          clear f0 f1 f2 f3 f4 f5 f6 f7 f8
          obtain ⟨D145367, hD145367⟩ : ∃ V, V = ((((((((D14536.setCell ⟨g5, 0, none⟩ (.int .i64 p.kind)).setCell ⟨g5, 1, none⟩ (.slice Akb p.keys.length ckb)).setCell ⟨g5, 2, none⟩ (.slice Avb p.vals.length cvb)).setCell ⟨g5, 3, none⟩ (.slice Anb p.kids.length cnb)).setCell ⟨g5, 4, none⟩ (.int .i64 0)).setCell ⟨g5, 5, none⟩ (.int .i64 0)).setCell ⟨g5, 6, none⟩ (.int .i64 0)).setCell ⟨g5, 7, none⟩ (.int .i64 0)) := ⟨_, rfl⟩
          rw [← hD145367]
          have HND145367 : Hid (∀ k, k ≠ g5 → D145367.heap[k]? = D14536.heap[k]?) := fun k hk => by rw [hD145367]; exact set8_ne _ hk _ _ _ _ _ _ _ _
          have HBD145367 : Hid (Below W0.heap.size W0 D145367) := by rw [hD145367]; exact set8_below HBD14536.out (by rw [HG5.out]; exact HBD14.out.size) _ _ _ _ _ _ _ _
          have HZ5D145367 : Hid (D145367.heap[g5]? = some (.cells #[.int .i64 p.kind, .slice Akb p.keys.length ckb, .slice Avb p.vals.length cvb, .slice Anb p.kids.length cnb, .int .i64 0, .int .i64 0, .int .i64 0, .int .i64 0] 26 (0, 0))) := by rw [hD145367]; exact row8_set HZ5D14536.out _ _ _ _ _ _ _ _
          have HZ4D145367 := Lib.hid ((HND145367.out g4 HNE.out).trans HZ4D14536.out)
          have HOaD145367 := Lib.hid (HOaD14536.out.keep HZ5D14536.out HND145367.out)
          have HObD145367 := Lib.hid (HObD14536.out.keep HZ5D14536.out HND145367.out)
          clear hD145367
          refine Held2.Ways.done (by kernel_rfl) ?_ _
          go_wp2_with fail
          go_meet
          case rel => exact ⟨g4, g5, _, _, _, _, _, _, rfl, rfl, HOaD145367.out, HObD145367.out, HNE.out, by rw [HG4.out]; exact HBD1.out.size, by rw [HG5.out]; exact HBD14.out.size, HZ4D145367.out, HZ5D145367.out, HBD145367.out⟩
      · go_simp
        refine hK.out _ _ (fun _ _ => HS.out _ (HBD1.out.alloc HBD1.out.size _)) ?_
        clear hK K
        try simp only [Act.put, List.setIfInBounds_toArray, List.set_cons_zero, List.set_cons_succ]
        obtain ⟨D15, hD15⟩ : ∃ V, V = D1.alloc (.cells #[.int .i64 0, .slice none 0 0, .slice none 0 0, .slice none 0 0, .int .i64 0, .int .i64 0, .int .i64 0, .int .i64 0] 26) := ⟨_, rfl⟩
        rw [← hD15]
        have HLD15 : Hid (Below D1.heap.size D1 D15) := by rw [hD15]; exact (Below.refl _ _).alloc (Nat.le_refl _) _
        have HBD15 : Hid (Below W0.heap.size W0 D15) := HBD1.out.trans (HLD15.out.mono HBD1.out.size)
        obtain ⟨g5, hg5⟩ : ∃ g, g = D1.heap.size := ⟨_, rfl⟩
        rw [← hg5]
        have HG5 := Lib.hid hg5
        have HZ5D15 : Hid (D15.heap[g5]? = some (.cells #[.int .i64 0, .slice none 0 0, .slice none 0 0, .slice none 0 0, .int .i64 0, .int .i64 0, .int .i64 0, .int .i64 0] 26 (0, 0))) := by rw [hD15, hg5]; exact heap_alloc_new _ _
        clear hD15 hg5
        have HOaD15 := Lib.hid (HOaD1.out.below HLD15.out)
        refine Held2.Ways.two (i := 3) (j := 4) (by rfl) (by rfl) (by kernel_rfl) (fun K hK => ?_) (fun K hK => ?_)
        · go_simp
          go_at_call 11
          refine (HC.out D15 (HBw.out.trans (HBD15.out.mono HSw.out))).mono ?_
          rintro e D153 ⟨kvb, vvb, nvb, rfl, ho, hb⟩
          obtain ⟨Akb, ckb, Avb, cvb, Anb, cnb, rfl, rfl, rfl⟩ := ho.rd.forms
          have HLD153 := Lib.hid hb
          have HObD153 := Lib.hid (ho.base_ HBD15.out.size)
          have HBD153 := Lib.hid (HBD15.out.trans (hb.mono HBD15.out.size))
          clear ho hb
          have HOaD153 := Lib.hid (HOaD15.out.below HLD153.out)
          have HZ5D153 := Lib.hid ((HLD153.out.block _ (Array.getElem?_eq_some_iff.1 HZ5D15.out).1).trans HZ5D15.out)
          dsimp only
          refine hK.out _ _ (fun _ _ => HS.out _ HBD153.out) ?_
          clear hK K
          try simp only [Act.put, List.setIfInBounds_toArray, List.set_cons_zero, List.set_cons_succ]
          refine Held2.Ways.one (i := 4) (by rfl) (by kernel_rfl) (fun K hK => ?_)
          go_simp
          refine hK.out _ _ (fun _ _ => HS.out _ (HBD153.out.alloc HBD153.out.size _)) ?_
          clear hK K
          try simp only [Act.put, List.setIfInBounds_toArray, List.set_cons_zero, List.set_cons_succ]
          obtain ⟨D1534, hD1534⟩ : ∃ V, V = D153.alloc (.cells #[.int .i64 0, .slice none 0 0, .slice none 0 0, .slice none 0 0, .int .i64 0, .int .i64 0, .int .i64 0, .int .i64 0] 26) := ⟨_, rfl⟩
          rw [← hD1534]
          have HLD1534 : Hid (Below D153.heap.size D153 D1534) := by rw [hD1534]; exact (Below.refl _ _).alloc (Nat.le_refl _) _
          have HBD1534 : Hid (Below W0.heap.size W0 D1534) := HBD153.out.trans (HLD1534.out.mono HBD153.out.size)
          obtain ⟨g4, hg4⟩ : ∃ g, g = D153.heap.size := ⟨_, rfl⟩
          rw [← hg4]
          have HG4 := Lib.hid hg4
          have HZ4D1534 : Hid (D1534.heap[g4]? = some (.cells #[.int .i64 0, .slice none 0 0, .slice none 0 0, .slice none 0 0, .int .i64 0, .int .i64 0, .int .i64 0, .int .i64 0] 26 (0, 0))) := by rw [hD1534, hg4]; exact heap_alloc_new _ _
          clear hD1534 hg4
          have HOaD1534 := Lib.hid (HOaD153.out.below HLD1534.out)
          have HZ5D1534 := Lib.hid ((HLD1534.out.block _ (Array.getElem?_eq_some_iff.1 HZ5D153.out).1).trans HZ5D153.out)
          have HObD1534 := Lib.hid (HObD153.out.below HLD1534.out)
          refine Held2.Ways.one (i := 6) (by rfl) (by kernel_rfl) (fun K hK => ?_)
          have HNE : Hid (g4 ≠ g5) := fun e => by
            have h1 := HG4.out
            have h2 := HG5.out
            have h3 := (Array.getElem?_eq_some_iff.1 HZ5D153.out).1
            omega
          obtain ⟨f0, f1, f2, f3, f4, f5, f6, f7, f8⟩ := row8_facts HZ4D1534.out
          go_simp
          refine hK.out _ _ (fun _ _ => HS.out _ (set8_below HBD1534.out (by rw [HG4.out]; exact HBD153.out.size) _ _ _ _ _ _ _ _)) ?_
          clear hK K
          try simp only [Act.put, List.setIfInBounds_toArray, List.set_cons_zero, List.set_cons_succ]
          clear f0 f1 f2 f3 f4 f5 f6 f7 f8
          obtain ⟨D15346, hD15346⟩ : ∃ V, V = ((((((((D1534.setCell ⟨g4, 0, none⟩ (.int .i64 p.kind)).setCell ⟨g4, 1, none⟩ (.slice Aka p.keys.length cka)).setCell ⟨g4, 2, none⟩ (.slice Ava p.vals.length cva)).setCell ⟨g4, 3, none⟩ (.slice Ana p.kids.length cna)).setCell ⟨g4, 4, none⟩ (.int .i64 0)).setCell ⟨g4, 5, none⟩ (.int .i64 0)).setCell ⟨g4, 6, none⟩ (.int .i64 0)).setCell ⟨g4, 7, none⟩ (.int .i64 0)) := ⟨_, rfl⟩
          rw [← hD15346]
          have HND15346 : Hid (∀ k, k ≠ g4 → D15346.heap[k]? = D1534.heap[k]?) := fun k hk => by rw [hD15346]; exact set8_ne _ hk _ _ _ _ _ _ _ _
          have HBD15346 : Hid (Below W0.heap.size W0 D15346) := by rw [hD15346]; exact set8_below HBD1534.out (by rw [HG4.out]; exact HBD153.out.size) _ _ _ _ _ _ _ _
          have HZ4D15346 : Hid (D15346.heap[g4]? = some (.cells #[.int .i64 p.kind, .slice Aka p.keys.length cka, .slice Ava p.vals.length cva, .slice Ana p.kids.length cna, .int .i64 0, .int .i64 0, .int .i64 0, .int .i64 0] 26 (0, 0))) := by rw [hD15346]; exact row8_set HZ4D1534.out _ _ _ _ _ _ _ _
          have HZ5D15346 := Lib.hid ((HND15346.out g5 (Ne.symm HNE.out)).trans HZ5D1534.out)
          have HOaD15346 := Lib.hid (HOaD1534.out.keep HZ4D1534.out HND15346.out)
          have HObD15346 := Lib.hid (HObD1534.out.keep HZ4D1534.out HND15346.out)
          clear hD15346
          refine Held2.Ways.one (i := 7) (by rfl) (by kernel_rfl) (fun K hK => ?_)
          obtain ⟨f0, f1, f2, f3, f4, f5, f6, f7, f8⟩ := row8_facts HZ5D15346.out
          go_simp
          refine hK.out _ _ (fun _ _ => HS.out _ (set8_below HBD15346.out (by rw [HG5.out]; exact HBD1.out.size) _ _ _ _ _ _ _ _)) ?_
          clear hK K
          try simp only [Act.put, List.setIfInBounds_toArray, List.set_cons_zero, List.set_cons_succ]
          clear f0 f1 f2 f3 f4 f5 f6 f7 f8
          obtain ⟨D153467, hD153467⟩ : ∃ V, V = ((((((((D15346.setCell ⟨g5, 0, none⟩ (.int .i64 p.kind)).setCell ⟨g5, 1, none⟩ (.slice Akb p.keys.length ckb)).setCell ⟨g5, 2, none⟩ (.slice Avb p.vals.length cvb)).setCell ⟨g5, 3, none⟩ (.slice Anb p.kids.length cnb)).setCell ⟨g5, 4, none⟩ (.int .i64 0)).setCell ⟨g5, 5, none⟩ (.int .i64 0)).setCell ⟨g5, 6, none⟩ (.int .i64 0)).setCell ⟨g5, 7, none⟩ (.int .i64 0)) := ⟨_, rfl⟩
          rw [← hD153467]
          have HND153467 : Hid (∀ k, k ≠ g5 → D153467.heap[k]? = D15346.heap[k]?) := fun k hk => by rw [hD153467]; exact set8_ne _ hk _ _ _ _ _ _ _ _
          have HBD153467 : Hid (Below W0.heap.size W0 D153467) := by rw [hD153467]; exact set8_below HBD15346.out (by rw [HG5.out]; exact HBD1.out.size) _ _ _ _ _ _ _ _
          have HZ5D153467 : Hid (D153467.heap[g5]? = some (.cells #[.int .i64 p.kind, .slice Akb p.keys.length ckb, .slice Avb p.vals.length cvb, .slice Anb p.kids.length cnb, .int .i64 0, .int .i64 0, .int .i64 0, .int .i64 0] 26 (0, 0))) := by rw [hD153467]; exact row8_set HZ5D15346.out _ _ _ _ _ _ _ _
          have HZ4D153467 := Lib.hid ((HND153467.out g4 HNE.out).trans HZ4D15346.out)
          have HOaD153467 := Lib.hid (HOaD15346.out.keep HZ5D15346.out HND153467.out)
          have HObD153467 := Lib.hid (HObD15346.out.keep HZ5D15346.out HND153467.out)
          clear hD153467
          refine Held2.Ways.done (by kernel_rfl) ?_ _
          go_wp2_with fail
          go_meet
          case rel => exact ⟨g4, g5, _, _, _, _, _, _, rfl, rfl, HOaD153467.out, HObD153467.out, HNE.out, by rw [HG4.out]; exact HBD153.out.size, by rw [HG5.out]; exact HBD1.out.size, HZ4D153467.out, HZ5D153467.out, HBD153467.out⟩
        · go_simp
          refine hK.out _ _ (fun _ _ => HS.out _ (HBD15.out.alloc HBD15.out.size _)) ?_
          clear hK K
          try simp only [Act.put, List.setIfInBounds_toArray, List.set_cons_zero, List.set_cons_succ]
          obtain ⟨D154, hD154⟩ : ∃ V, V = D15.alloc (.cells #[.int .i64 0, .slice none 0 0, .slice none 0 0, .slice none 0 0, .int .i64 0, .int .i64 0, .int .i64 0, .int .i64 0] 26) := ⟨_, rfl⟩
          rw [← hD154]
          have HLD154 : Hid (Below D15.heap.size D15 D154) := by rw [hD154]; exact (Below.refl _ _).alloc (Nat.le_refl _) _
          have HBD154 : Hid (Below W0.heap.size W0 D154) := HBD15.out.trans (HLD154.out.mono HBD15.out.size)
          obtain ⟨g4, hg4⟩ : ∃ g, g = D15.heap.size := ⟨_, rfl⟩
          rw [← hg4]
          have HG4 := Lib.hid hg4
          have HZ4D154 : Hid (D154.heap[g4]? = some (.cells #[.int .i64 0, .slice none 0 0, .slice none 0 0, .slice none 0 0, .int .i64 0, .int .i64 0, .int .i64 0, .int .i64 0] 26 (0, 0))) := by rw [hD154, hg4]; exact heap_alloc_new _ _
          clear hD154 hg4
          have HOaD154 := Lib.hid (HOaD15.out.below HLD154.out)
          have HZ5D154 := Lib.hid ((HLD154.out.block _ (Array.getElem?_eq_some_iff.1 HZ5D15.out).1).trans HZ5D15.out)
          refine Held2.Ways.one (i := 3) (by rfl) (by kernel_rfl) (fun K hK => ?_)
          go_simp
          go_at_call 11
          refine (HC.out D154 (HBw.out.trans (HBD154.out.mono HSw.out))).mono ?_
          rintro e D1543 ⟨kvb, vvb, nvb, rfl, ho, hb⟩
          obtain ⟨Akb, ckb, Avb, cvb, Anb, cnb, rfl, rfl, rfl⟩ := ho.rd.forms
          have HLD1543 := Lib.hid hb
          have HObD1543 := Lib.hid (ho.base_ HBD154.out.size)
          have HBD1543 := Lib.hid (HBD154.out.trans (hb.mono HBD154.out.size))
          clear ho hb
          have HOaD1543 := Lib.hid (HOaD154.out.below HLD1543.out)
          have HZ5D1543 := Lib.hid ((HLD1543.out.block _ (Array.getElem?_eq_some_iff.1 HZ5D154.out).1).trans HZ5D154.out)
          have HZ4D1543 := Lib.hid ((HLD1543.out.block _ (Array.getElem?_eq_some_iff.1 HZ4D154.out).1).trans HZ4D154.out)
          dsimp only
          refine hK.out _ _ (fun _ _ => HS.out _ HBD1543.out) ?_
          clear hK K
          try simp only [Act.put, List.setIfInBounds_toArray, List.set_cons_zero, List.set_cons_succ]
          refine Held2.Ways.one (i := 6) (by rfl) (by kernel_rfl) (fun K hK => ?_)
          have HNE : Hid (g4 ≠ g5) := fun e => by
            have h1 := HG4.out
            have h2 := HG5.out
            have h3 := (Array.getElem?_eq_some_iff.1 HZ5D15.out).1
            omega
          obtain ⟨f0, f1, f2, f3, f4, f5, f6, f7, f8⟩ := row8_facts HZ4D1543.out
          go_simp
          refine hK.out _ _ (fun _ _ => HS.out _ (set8_below HBD1543.out (by rw [HG4.out]; exact HBD15.out.size) _ _ _ _ _ _ _ _)) ?_
          clear hK K
          try simp only [Act.put, List.setIfInBounds_toArray, List.set_cons_zero, List.set_cons_succ]
          clear f0 f1 f2 f3 f4 f5 f6 f7 f8
          obtain ⟨D15436, hD15436⟩ : ∃ V, V = ((((((((D1543.setCell ⟨g4, 0, none⟩ (.int .i64 p.kind)).setCell ⟨g4, 1, none⟩ (.slice Aka p.keys.length cka)).setCell ⟨g4, 2, none⟩ (.slice Ava p.vals.length cva)).setCell ⟨g4, 3, none⟩ (.slice Ana p.kids.length cna)).setCell ⟨g4, 4, none⟩ (.int .i64 0)).setCell ⟨g4, 5, none⟩ (.int .i64 0)).setCell ⟨g4, 6, none⟩ (.int .i64 0)).setCell ⟨g4, 7, none⟩ (.int .i64 0)) := ⟨_, rfl⟩
          rw [← hD15436]
          have HND15436 : Hid (∀ k, k ≠ g4 → D15436.heap[k]? = D1543.heap[k]?) := fun k hk => by rw [hD15436]; exact set8_ne _ hk _ _ _ _ _ _ _ _
          have HBD15436 : Hid (Below W0.heap.size W0 D15436) := by rw [hD15436]; exact set8_below HBD1543.out (by rw [HG4.out]; exact HBD15.out.size) _ _ _ _ _ _ _ _
          have HZ4D15436 : Hid (D15436.heap[g4]? = some (.cells #[.int .i64 p.kind, .slice Aka p.keys.length cka, .slice Ava p.vals.length cva, .slice Ana p.kids.length cna, .int .i64 0, .int .i64 0, .int .i64 0, .int .i64 0] 26 (0, 0))) := by rw [hD15436]; exact row8_set HZ4D1543.out _ _ _ _ _ _ _ _
          have HZ5D15436 := Lib.hid ((HND15436.out g5 (Ne.symm HNE.out)).trans HZ5D1543.out)
          have HOaD15436 := Lib.hid (HOaD1543.out.keep HZ4D1543.out HND15436.out)
          have HObD15436 := Lib.hid (HObD1543.out.keep HZ4D1543.out HND15436.out)
          clear hD15436
          refine Held2.Ways.one (i := 7) (by rfl) (by kernel_rfl) (fun K hK => ?_)
          obtain ⟨f0, f1, f2, f3, f4, f5, f6, f7, f8⟩ := row8_facts HZ5D15436.out
          go_simp
          refine hK.out _ _ (fun _ _ => HS.out _ (set8_below HBD15436.out (by rw [HG5.out]; exact HBD1.out.size) _ _ _ _ _ _ _ _)) ?_
          clear hK K
          try simp only [Act.put, List.setIfInBounds_toArray, List.set_cons_zero, List.set_cons_succ]
          clear f0 f1 f2 f3 f4 f5 f6 f7 f8
          obtain ⟨D154367, hD154367⟩ : ∃ V, V = ((((((((D15436.setCell ⟨g5, 0, none⟩ (.int .i64 p.kind)).setCell ⟨g5, 1, none⟩ (.slice Akb p.keys.length ckb)).setCell ⟨g5, 2, none⟩ (.slice Avb p.vals.length cvb)).setCell ⟨g5, 3, none⟩ (.slice Anb p.kids.length cnb)).setCell ⟨g5, 4, none⟩ (.int .i64 0)).setCell ⟨g5, 5, none⟩ (.int .i64 0)).setCell ⟨g5, 6, none⟩ (.int .i64 0)).setCell ⟨g5, 7, none⟩ (.int .i64 0)) := ⟨_, rfl⟩
          rw [← hD154367]
          have HND154367 : Hid (∀ k, k ≠ g5 → D154367.heap[k]? = D15436.heap[k]?) := fun k hk => by rw [hD154367]; exact set8_ne _ hk _ _ _ _ _ _ _ _
          have HBD154367 : Hid (Below W0.heap.size W0 D154367) := by rw [hD154367]; exact set8_below HBD15436.out (by rw [HG5.out]; exact HBD1.out.size) _ _ _ _ _ _ _ _
          have HZ5D154367 : Hid (D154367.heap[g5]? = some (.cells #[.int .i64 p.kind, .slice Akb p.keys.length ckb, .slice Avb p.vals.length cvb, .slice Anb p.kids.length cnb, .int .i64 0, .int .i64 0, .int .i64 0, .int .i64 0] 26 (0, 0))) := by rw [hD154367]; exact row8_set HZ5D15436.out _ _ _ _ _ _ _ _
          have HZ4D154367 := Lib.hid ((HND154367.out g4 HNE.out).trans HZ4D15436.out)
          have HOaD154367 := Lib.hid (HOaD15436.out.keep HZ5D15436.out HND154367.out)
          have HObD154367 := Lib.hid (HObD15436.out.keep HZ5D15436.out HND154367.out)
          clear hD154367
          refine Held2.Ways.done (by kernel_rfl) ?_ _
          go_wp2_with fail
          go_meet
          case rel => exact ⟨g4, g5, _, _, _, _, _, _, rfl, rfl, HOaD154367.out, HObD154367.out, HNE.out, by rw [HG4.out]; exact HBD15.out.size, by rw [HG5.out]; exact HBD1.out.size, HZ4D154367.out, HZ5D154367.out, HBD154367.out⟩
    · go_simp
      refine hK.out _ _ (fun _ _ => HS.out _ (HBD.out.alloc HBD.out.size _)) ?_
      clear hK K
      try simp only [Act.put, List.setIfInBounds_toArray, List.set_cons_zero, List.set_cons_succ]
      obtain ⟨D4, hD4⟩ : ∃ V, V = D.alloc (.cells #[.int .i64 0, .slice none 0 0, .slice none 0 0, .slice none 0 0, .int .i64 0, .int .i64 0, .int .i64 0, .int .i64 0] 26) := ⟨_, rfl⟩
      rw [← hD4]
      have HLD4 : Hid (Below D.heap.size D D4) := by rw [hD4]; exact (Below.refl _ _).alloc (Nat.le_refl _) _
      have HBD4 : Hid (Below W0.heap.size W0 D4) := HBD.out.trans (HLD4.out.mono HBD.out.size)
      obtain ⟨g4, hg4⟩ : ∃ g, g = D.heap.size := ⟨_, rfl⟩
      rw [← hg4]
      have HG4 := Lib.hid hg4
      have HZ4D4 : Hid (D4.heap[g4]? = some (.cells #[.int .i64 0, .slice none 0 0, .slice none 0 0, .slice none 0 0, .int .i64 0, .int .i64 0, .int .i64 0, .int .i64 0] 26 (0, 0))) := by rw [hD4, hg4]; exact heap_alloc_new _ _
      clear hD4 hg4
      refine Held2.Ways.two (i := 1) (j := 5) (by rfl) (by rfl) (by kernel_rfl) (fun K hK => ?_) (fun K hK => ?_)
      · go_simp
        go_at_call 11
        refine (HC.out D4 (HBw.out.trans (HBD4.out.mono HSw.out))).mono ?_
        rintro e D41 ⟨kva, vva, nva, rfl, ho, hb⟩
        obtain ⟨Aka, cka, Ava, cva, Ana, cna, rfl, rfl, rfl⟩ := ho.rd.forms
        have HLD41 := Lib.hid hb
        have HOaD41 := Lib.hid (ho.base_ HBD4.out.size)
        have HBD41 := Lib.hid (HBD4.out.trans (hb.mono HBD4.out.size))
        clear ho hb
        have HZ4D41 := Lib.hid ((HLD41.out.block _ (Array.getElem?_eq_some_iff.1 HZ4D4.out).1).trans HZ4D4.out)
        dsimp only
        refine hK.out _ _ (fun _ _ => HS.out _ HBD41.out) ?_
        clear hK K
        try simp only [Act.put, List.setIfInBounds_toArray, List.set_cons_zero, List.set_cons_succ]
        refine Held2.Ways.two (i := 3) (j := 5) (by rfl) (by rfl) (by kernel_rfl) (fun K hK => ?_) (fun K hK => ?_)
        · go_simp
          go_at_call 11
          refine (HC.out D41 (HBw.out.trans (HBD41.out.mono HSw.out))).mono ?_
          rintro e D413 ⟨kvb, vvb, nvb, rfl, ho, hb⟩
          obtain ⟨Akb, ckb, Avb, cvb, Anb, cnb, rfl, rfl, rfl⟩ := ho.rd.forms
          have HLD413 := Lib.hid hb
          have HObD413 := Lib.hid (ho.base_ HBD41.out.size)
          have HBD413 := Lib.hid (HBD41.out.trans (hb.mono HBD41.out.size))
          clear ho hb
          have HZ4D413 := Lib.hid ((HLD413.out.block _ (Array.getElem?_eq_some_iff.1 HZ4D41.out).1).trans HZ4D41.out)
          have HOaD413 := Lib.hid (HOaD41.out.below HLD413.out)
          dsimp only
          refine hK.out _ _ (fun _ _ => HS.out _ HBD413.out) ?_
          clear hK K
          try simp only [Act.put, List.setIfInBounds_toArray, List.set_cons_zero, List.set_cons_succ]
          refine Held2.Ways.one (i := 5) (by rfl) (by kernel_rfl) (fun K hK => ?_)
          go_simp
          refine hK.out _ _ (fun _ _ => HS.out _ (HBD413.out.alloc HBD413.out.size _)) ?_
          clear hK K
          try simp only [Act.put, List.setIfInBounds_toArray, List.set_cons_zero, List.set_cons_succ]
          obtain ⟨D4135, hD4135⟩ : ∃ V, V = D413.alloc (.cells #[.int .i64 0, .slice none 0 0, .slice none 0 0, .slice none 0 0, .int .i64 0, .int .i64 0, .int .i64 0, .int .i64 0] 26) := ⟨_, rfl⟩
          rw [← hD4135]
          have HLD4135 : Hid (Below D413.heap.size D413 D4135) := by rw [hD4135]; exact (Below.refl _ _).alloc (Nat.le_refl _) _
          have HBD4135 : Hid (Below W0.heap.size W0 D4135) := HBD413.out.trans (HLD4135.out.mono HBD413.out.size)
          obtain ⟨g5, hg5⟩ : ∃ g, g = D413.heap.size := ⟨_, rfl⟩
          rw [← hg5]
          have HG5 := Lib.hid hg5
          have HZ5D4135 : Hid (D4135.heap[g5]? = some (.cells #[.int .i64 0, .slice none 0 0, .slice none 0 0, .slice none 0 0, .int .i64 0, .int .i64 0, .int .i64 0, .int .i64 0] 26 (0, 0))) := by rw [hD4135, hg5]; exact heap_alloc_new _ _
          clear hD4135 hg5
          have HZ4D4135 := Lib.hid ((HLD4135.out.block _ (Array.getElem?_eq_some_iff.1 HZ4D413.out).1).trans HZ4D413.out)
          have HOaD4135 := Lib.hid (HOaD413.out.below HLD4135.out)
          have HObD4135 := Lib.hid (HObD413.out.below HLD4135.out)
          refine Held2.Ways.one (i := 6) (by rfl) (by kernel_rfl) (fun K hK => ?_)
          have HNE : Hid (g4 ≠ g5) := fun e => by
            have h1 := HG4.out
            have h2 := HG5.out
            have h3 := (Array.getElem?_eq_some_iff.1 HZ4D413.out).1
            omega
          obtain ⟨f0, f1, f2, f3, f4, f5, f6, f7, f8⟩ := row8_facts HZ4D4135.out
          go_simp
          refine hK.out _ _ (fun _ _ => HS.out _ (set8_below HBD4135.out (by rw [HG4.out]; exact HBD.out.size) _ _ _ _ _ _ _ _)) ?_
          clear hK K
          try simp only [Act.put, List.setIfInBounds_toArray, List.set_cons_zero, List.set_cons_succ]
          clear f0 f1 f2 f3 f4 f5 f6 f7 f8
          obtain ⟨D41356, hD41356⟩ : ∃ V, V = ((((((((D4135.setCell ⟨g4, 0, none⟩ (.int .i64 p.kind)).setCell ⟨g4, 1, none⟩ (.slice Aka p.keys.length cka)).setCell ⟨g4, 2, none⟩ (.slice Ava p.vals.length cva)).setCell ⟨g4, 3, none⟩ (.slice Ana p.kids.length cna)).setCell ⟨g4, 4, none⟩ (.int .i64 0)).setCell ⟨g4, 5, none⟩ (.int .i64 0)).setCell ⟨g4, 6, none⟩ (.int .i64 0)).setCell ⟨g4, 7, none⟩ (.int .i64 0)) := ⟨_, rfl⟩
          rw [← hD41356]
          have HND41356 : Hid (∀ k, k ≠ g4 → D41356.heap[k]? = D4135.heap[k]?) := fun k hk => by rw [hD41356]; exact set8_ne _ hk _ _ _ _ _ _ _ _
          have HBD41356 : Hid (Below W0.heap.size W0 D41356) := by rw [hD41356]; exact set8_below HBD4135.out (by rw [HG4.out]; exact HBD.out.size) _ _ _ _ _ _ _ _
          have HZ4D41356 : Hid (D41356.heap[g4]? = some (.cells #[.int .i64 p.kind, .slice Aka p.keys.length cka, .slice Ava p.vals.length cva, .slice Ana p.kids.length cna, .int .i64 0, .int .i64 0, .int .i64 0, .int .i64 0] 26 (0, 0))) := by rw [hD41356]; exact row8_set HZ4D4135.out _ _ _ _ _ _ _ _
          have HZ5D41356 := Lib.hid ((HND41356.out g5 (Ne.symm HNE.out)).trans HZ5D4135.out)
          have HOaD41356 := Lib.hid (HOaD4135.out.keep HZ4D4135.out HND41356.out)
          have HObD41356 := Lib.hid (HObD4135.out.keep HZ4D4135.out HND41356.out)
          clear hD41356
          refine Held2.Ways.one (i := 7) (by rfl) (by kernel_rfl) (fun K hK => ?_)
          obtain ⟨f0, f1, f2, f3, f4, f5, f6, f7, f8⟩ := row8_facts HZ5D41356.out
          go_simp
          refine hK.out _ _ (fun _ _ => HS.out _ (set8_below HBD41356.out (by rw [HG5.out]; exact HBD413.out.size) _ _ _ _ _ _ _ _)) ?_
          clear hK K
          try simp only [Act.put, List.setIfInBounds_toArray, List.set_cons_zero, List.set_cons_succ]
          clear f0 f1 f2 f3 f4 f5 f6 f7 f8
          obtain ⟨D413567, hD413567⟩ : ∃ V, V = ((((((((D41356.setCell ⟨g5, 0, none⟩ (.int .i64 p.kind)).setCell ⟨g5, 1, none⟩ (.slice Akb p.keys.length ckb)).setCell ⟨g5, 2, none⟩ (.slice Avb p.vals.length cvb)).setCell ⟨g5, 3, none⟩ (.slice Anb p.kids.length cnb)).setCell ⟨g5, 4, none⟩ (.int .i64 0)).setCell ⟨g5, 5, none⟩ (.int .i64 0)).setCell ⟨g5, 6, none⟩ (.int .i64 0)).setCell ⟨g5, 7, none⟩ (.int .i64 0)) := ⟨_, rfl⟩
          rw [← hD413567]
          have HND413567 : Hid (∀ k, k ≠ g5 → D413567.heap[k]? = D41356.heap[k]?) := fun k hk => by rw [hD413567]; exact set8_ne _ hk _ _ _ _ _ _ _ _
          have HBD413567 : Hid (Below W0.heap.size W0 D413567) := by rw [hD413567]; exact set8_below HBD41356.out (by rw [HG5.out]; exact HBD413.out.size) _ _ _ _ _ _ _ _
          have HZ5D413567 : Hid (D413567.heap[g5]? = some (.cells #[.int .i64 p.kind, .slice Akb p.keys.length ckb, .slice Avb p.vals.length cvb, .slice Anb p.kids.length cnb, .int .i64 0, .int .i64 0, .int .i64 0, .int .i64 0] 26 (0, 0))) := by rw [hD413567]; exact row8_set HZ5D41356.out _ _ _ _ _ _ _ _
          have HZ4D413567 := Lib.hid ((HND413567.out g4 HNE.out).trans HZ4D41356.out)
          have HOaD413567 := Lib.hid (HOaD41356.out.keep HZ5D41356.out HND413567.out)
          have HObD413567 := Lib.hid (HObD41356.out.keep HZ5D41356.out HND413567.out)
          clear hD413567
          refine Held2.Ways.done (by kernel_rfl) ?_ _
          go_wp2_with fail
          go_meet
          case rel => exact ⟨g4, g5, _, _, _, _, _, _, rfl, rfl, HOaD413567.out, HObD413567.out, HNE.out, by rw [HG4.out]; exact HBD.out.size, by rw [HG5.out]; exact HBD413.out.size, HZ4D413567.out, HZ5D413567.out, HBD413567.out⟩
        · go_simp
          refine hK.out _ _ (fun _ _ => HS.out _ (HBD41.out.alloc HBD41.out.size _)) ?_
          clear hK K
          try simp only [Act.put, List.setIfInBounds_toArray, List.set_cons_zero, List.set_cons_succ]
          obtain ⟨D415, hD415⟩ : ∃ V, V = D41.alloc (.cells #[.int .i64 0, .slice none 0 0, .slice none 0 0, .slice none 0 0, .int .i64 0, .int .i64 0, .int .i64 0, .int .i64 0] 26) := ⟨_, rfl⟩
          rw [← hD415]
          have HLD415 : Hid (Below D41.heap.size D41 D415) := by rw [hD415]; exact (Below.refl _ _).alloc (Nat.le_refl _) _
          have HBD415 : Hid (Below W0.heap.size W0 D415) := HBD41.out.trans (HLD415.out.mono HBD41.out.size)
          obtain ⟨g5, hg5⟩ : ∃ g, g = D41.heap.size := ⟨_, rfl⟩
          rw [← hg5]
          have HG5 := Lib.hid hg5
          have HZ5D415 : Hid (D415.heap[g5]? = some (.cells #[.int .i64 0, .slice none 0 0, .slice none 0 0, .slice none 0 0, .int .i64 0, .int .i64 0, .int .i64 0, .int .i64 0] 26 (0, 0))) := by rw [hD415, hg5]; exact heap_alloc_new _ _
          clear hD415 hg5
          have HZ4D415 := Lib.hid ((HLD415.out.block _ (Array.getElem?_eq_some_iff.1 HZ4D41.out).1).trans HZ4D41.out)
          have HOaD415 := Lib.hid (HOaD41.out.below HLD415.out)
          refine Held2.Ways.one (i := 3) (by rfl) (by kernel_rfl) (fun K hK => ?_)
          go_simp
          go_at_call 11
          refine (HC.out D415 (HBw.out.trans (HBD415.out.mono HSw.out))).mono ?_
          rintro e D4153 ⟨kvb, vvb, nvb, rfl, ho, hb⟩
          obtain ⟨Akb, ckb, Avb, cvb, Anb, cnb, rfl, rfl, rfl⟩ := ho.rd.forms
          have HLD4153 := Lib.hid hb
          have HObD4153 := Lib.hid (ho.base_ HBD415.out.size)
          have HBD4153 := Lib.hid (HBD415.out.trans (hb.mono HBD415.out.size))
          clear ho hb
          have HZ4D4153 := Lib.hid ((HLD4153.out.block _ (Array.getElem?_eq_some_iff.1 HZ4D415.out).1).trans HZ4D415.out)
          have HOaD4153 := Lib.hid (HOaD415.out.below HLD4153.out)
          have HZ5D4153 := Lib.hid ((HLD4153.out.block _ (Array.getElem?_eq_some_iff.1 HZ5D415.out).1).trans HZ5D415.out)
          dsimp only
          refine hK.out _ _ (fun _ _ => HS.out _ HBD4153.out) ?_
          clear hK K
          try simp only [Act.put, List.setIfInBounds_toArray, List.set_cons_zero, List.set_cons_succ]
          refine Held2.Ways.one (i := 6) (by rfl) (by kernel_rfl) (fun K hK => ?_)
          have HNE : Hid (g4 ≠ g5) := fun e => by
            have h1 := HG4.out
            have h2 := HG5.out
            have h3 := (Array.getElem?_eq_some_iff.1 HZ4D41.out).1
            omega
          obtain ⟨f0, f1, f2, f3, f4, f5, f6, f7, f8⟩ := row8_facts HZ4D4153.out
          go_simp
          refine hK.out _ _ (fun _ _ => HS.out _ (set8_below HBD4153.out (by rw [HG4.out]; exact HBD.out.size) _ _ _ _ _ _ _ _)) ?_
          clear hK K
          try simp only [Act.put, List.setIfInBounds_toArray, List.set_cons_zero, List.set_cons_succ]
          clear f0 f1 f2 f3 f4 f5 f6 f7 f8
          obtain ⟨D41536, hD41536⟩ : ∃ V, V = ((((((((D4153.setCell ⟨g4, 0, none⟩ (.int .i64 p.kind)).setCell ⟨g4, 1, none⟩ (.slice Aka p.keys.length cka)).setCell ⟨g4, 2, none⟩ (.slice Ava p.vals.length cva)).setCell ⟨g4, 3, none⟩ (.slice Ana p.kids.length cna)).setCell ⟨g4, 4, none⟩ (.int .i64 0)).setCell ⟨g4, 5, none⟩ (.int .i64 0)).setCell ⟨g4, 6, none⟩ (.int .i64 0)).setCell ⟨g4, 7, none⟩ (.int .i64 0)) := ⟨_, rfl⟩
          rw [← hD41536]
          have HND41536 : Hid (∀ k, k ≠ g4 → D41536.heap[k]? = D4153.heap[k]?) := fun k hk => by rw [hD41536]; exact set8_ne _ hk _ _ _ _ _ _ _ _
          have HBD41536 : Hid (Below W0.heap.size W0 D41536) := by rw [hD41536]; exact set8_below HBD4153.out (by rw [HG4.out]; exact HBD.out.size) _ _ _ _ _ _ _ _
          have HZ4D41536 : Hid (D41536.heap[g4]? = some (.cells #[.int .i64 p.kind, .slice Aka p.keys.length cka, .slice Ava p.vals.length cva, .slice Ana p.kids.length cna, .int .i64 0, .int .i64 0, .int .i64 0, .int .i64 0] 26 (0, 0))) := by rw [hD41536]; exact row8_set HZ4D4153.out _ _ _ _ _ _ _ _
          have HZ5D41536 := Lib.hid ((HND41536.out g5 (Ne.symm HNE.out)).trans HZ5D4153.out)
          have HOaD41536 := Lib.hid (HOaD4153.out.keep HZ4D4153.out HND41536.out)
          have HObD41536 := Lib.hid (HObD4153.out.keep HZ4D4153.out HND41536.out)
          clear hD41536
          refine Held2.Ways.one (i := 7) (by rfl) (by kernel_rfl) (fun K hK => ?_)
          obtain ⟨f0, f1, f2, f3, f4, f5, f6, f7, f8⟩ := row8_facts HZ5D41536.out
          go_simp
          refine hK.out _ _ (fun _ _ => HS.out _ (set8_below HBD41536.out (by rw [HG5.out]; exact HBD41.out.size) _ _ _ _ _ _ _ _)) ?_
          clear hK K
          try simp only [Act.put, List.setIfInBounds_toArray, List.set_cons_zero, List.set_cons_succ]
          clear f0 f1 f2 f3 f4 f5 f6 f7 f8
          obtain ⟨D415367, hD415367⟩ : ∃ V, V = ((((((((D41536.setCell ⟨g5, 0, none⟩ (.int .i64 p.kind)).setCell ⟨g5, 1, none⟩ (.slice Akb p.keys.length ckb)).setCell ⟨g5, 2, none⟩ (.slice Avb p.vals.length cvb)).setCell ⟨g5, 3, none⟩ (.slice Anb p.kids.length cnb)).setCell ⟨g5, 4, none⟩ (.int .i64 0)).setCell ⟨g5, 5, none⟩ (.int .i64 0)).setCell ⟨g5, 6, none⟩ (.int .i64 0)).setCell ⟨g5, 7, none⟩ (.int .i64 0)) := ⟨_, rfl⟩
          rw [← hD415367]
          have HND415367 : Hid (∀ k, k ≠ g5 → D415367.heap[k]? = D41536.heap[k]?) := fun k hk => by rw [hD415367]; exact set8_ne _ hk _ _ _ _ _ _ _ _
          have HBD415367 : Hid (Below W0.heap.size W0 D415367) := by rw [hD415367]; exact set8_below HBD41536.out (by rw [HG5.out]; exact HBD41.out.size) _ _ _ _ _ _ _ _
          have HZ5D415367 : Hid (D415367.heap[g5]? = some (.cells #[.int .i64 p.kind, .slice Akb p.keys.length ckb, .slice Avb p.vals.length cvb, .slice Anb p.kids.length cnb, .int .i64 0, .int .i64 0, .int .i64 0, .int .i64 0] 26 (0, 0))) := by rw [hD415367]; exact row8_set HZ5D41536.out _ _ _ _ _ _ _ _
          have HZ4D415367 := Lib.hid ((HND415367.out g4 HNE.out).trans HZ4D41536.out)
          have HOaD415367 := Lib.hid (HOaD41536.out.keep HZ5D41536.out HND415367.out)
          have HObD415367 := Lib.hid (HObD41536.out.keep HZ5D41536.out HND415367.out)
          clear hD415367
          refine Held2.Ways.done (by kernel_rfl) ?_ _
          go_wp2_with fail
          go_meet
          case rel => exact ⟨g4, g5, _, _, _, _, _, _, rfl, rfl, HOaD415367.out, HObD415367.out, HNE.out, by rw [HG4.out]; exact HBD.out.size, by rw [HG5.out]; exact HBD41.out.size, HZ4D415367.out, HZ5D415367.out, HBD415367.out⟩
      · go_simp
        refine hK.out _ _ (fun _ _ => HS.out _ (HBD4.out.alloc HBD4.out.size _)) ?_
        clear hK K
        try simp only [Act.put, List.setIfInBounds_toArray, List.set_cons_zero, List.set_cons_succ]
        obtain ⟨D45, hD45⟩ : ∃ V, V = D4.alloc (.cells #[.int .i64 0, .slice none 0 0, .slice none 0 0, .slice none 0 0, .int .i64 0, .int .i64 0, .int .i64 0, .int .i64 0] 26) := ⟨_, rfl⟩
        rw [← hD45]
        have HLD45 : Hid (Below D4.heap.size D4 D45) := by rw [hD45]; exact (Below.refl _ _).alloc (Nat.le_refl _) _
        have HBD45 : Hid (Below W0.heap.size W0 D45) := HBD4.out.trans (HLD45.out.mono HBD4.out.size)
        obtain ⟨g5, hg5⟩ : ∃ g, g = D4.heap.size := ⟨_, rfl⟩
        rw [← hg5]
        have HG5 := Lib.hid hg5
        have HZ5D45 : Hid (D45.heap[g5]? = some (.cells #[.int .i64 0, .slice none 0 0, .slice none 0 0, .slice none 0 0, .int .i64 0, .int .i64 0, .int .i64 0, .int .i64 0] 26 (0, 0))) := by rw [hD45, hg5]; exact heap_alloc_new _ _
        clear hD45 hg5
        have HZ4D45 := Lib.hid ((HLD45.out.block _ (Array.getElem?_eq_some_iff.1 HZ4D4.out).1).trans HZ4D4.out)
        refine Held2.Ways.one (i := 1) (by rfl) (by kernel_rfl) (fun K hK => ?_)
        go_simp
        go_at_call 11
        refine (HC.out D45 (HBw.out.trans (HBD45.out.mono HSw.out))).mono ?_
        rintro e D451 ⟨kva, vva, nva, rfl, ho, hb⟩
        obtain ⟨Aka, cka, Ava, cva, Ana, cna, rfl, rfl, rfl⟩ := ho.rd.forms
        have HLD451 := Lib.hid hb
        have HOaD451 := Lib.hid (ho.base_ HBD45.out.size)
        have HBD451 := Lib.hid (HBD45.out.trans (hb.mono HBD45.out.size))
        clear ho hb
        have HZ4D451 := Lib.hid ((HLD451.out.block _ (Array.getElem?_eq_some_iff.1 HZ4D45.out).1).trans HZ4D45.out)
        have HZ5D451 := Lib.hid ((HLD451.out.block _ (Array.getElem?_eq_some_iff.1 HZ5D45.out).1).trans HZ5D45.out)
        dsimp only
        refine hK.out _ _ (fun _ _ => HS.out _ HBD451.out) ?_
        clear hK K
        try simp only [Act.put, List.setIfInBounds_toArray, List.set_cons_zero, List.set_cons_succ]
        refine Held2.Ways.one (i := 3) (by rfl) (by kernel_rfl) (fun K hK => ?_)
        go_simp
        go_at_call 11
        refine (HC.out D451 (HBw.out.trans (HBD451.out.mono HSw.out))).mono ?_
        rintro e D4513 ⟨kvb, vvb, nvb, rfl, ho, hb⟩
        obtain ⟨Akb, ckb, Avb, cvb, Anb, cnb, rfl, rfl, rfl⟩ := ho.rd.forms
        have HLD4513 := Lib.hid hb
        have HObD4513 := Lib.hid (ho.base_ HBD451.out.size)
        have HBD4513 := Lib.hid (HBD451.out.trans (hb.mono HBD451.out.size))
        clear ho hb
        have HZ4D4513 := Lib.hid ((HLD4513.out.block _ (Array.getElem?_eq_some_iff.1 HZ4D451.out).1).trans HZ4D451.out)
        have HZ5D4513 := Lib.hid ((HLD4513.out.block _ (Array.getElem?_eq_some_iff.1 HZ5D451.out).1).trans HZ5D451.out)
        have HOaD4513 := Lib.hid (HOaD451.out.below HLD4513.out)
        dsimp only
        refine hK.out _ _ (fun _ _ => HS.out _ HBD4513.out) ?_
        clear hK K
        try simp only [Act.put, List.setIfInBounds_toArray, List.set_cons_zero, List.set_cons_succ]
        refine Held2.Ways.one (i := 6) (by rfl) (by kernel_rfl) (fun K hK => ?_)
        have HNE : Hid (g4 ≠ g5) := fun e => by
          have h1 := HG4.out
          have h2 := HG5.out
          have h3 := (Array.getElem?_eq_some_iff.1 HZ4D4.out).1
          omega
        obtain ⟨f0, f1, f2, f3, f4, f5, f6, f7, f8⟩ := row8_facts HZ4D4513.out
        go_simp
        refine hK.out _ _ (fun _ _ => HS.out _ (set8_below HBD4513.out (by rw [HG4.out]; exact HBD.out.size) _ _ _ _ _ _ _ _)) ?_
        clear hK K
        try simp only [Act.put, List.setIfInBounds_toArray, List.set_cons_zero, List.set_cons_succ]
        clear f0 f1 f2 f3 f4 f5 f6 f7 f8
        obtain ⟨D45136, hD45136⟩ : ∃ V, V = ((((((((D4513.setCell ⟨g4, 0, none⟩ (.int .i64 p.kind)).setCell ⟨g4, 1, none⟩ (.slice Aka p.keys.length cka)).setCell ⟨g4, 2, none⟩ (.slice Ava p.vals.length cva)).setCell ⟨g4, 3, none⟩ (.slice Ana p.kids.length cna)).setCell ⟨g4, 4, none⟩ (.int .i64 0)).setCell ⟨g4, 5, none⟩ (.int .i64 0)).setCell ⟨g4, 6, none⟩ (.int .i64 0)).setCell ⟨g4, 7, none⟩ (.int .i64 0)) := ⟨_, rfl⟩
        rw [← hD45136]
        have HND45136 : Hid (∀ k, k ≠ g4 → D45136.heap[k]? = D4513.heap[k]?) := fun k hk => by rw [hD45136]; exact set8_ne _ hk _ _ _ _ _ _ _ _
        have HBD45136 : Hid (Below W0.heap.size W0 D45136) := by rw [hD45136]; exact set8_below HBD4513.out (by rw [HG4.out]; exact HBD.out.size) _ _ _ _ _ _ _ _
        have HZ4D45136 : Hid (D45136.heap[g4]? = some (.cells #[.int .i64 p.kind, .slice Aka p.keys.length cka, .slice Ava p.vals.length cva, .slice Ana p.kids.length cna, .int .i64 0, .int .i64 0, .int .i64 0, .int .i64 0] 26 (0, 0))) := by rw [hD45136]; exact row8_set HZ4D4513.out _ _ _ _ _ _ _ _
        have HZ5D45136 := Lib.hid ((HND45136.out g5 (Ne.symm HNE.out)).trans HZ5D4513.out)
        have HOaD45136 := Lib.hid (HOaD4513.out.keep HZ4D4513.out HND45136.out)
        have HObD45136 := Lib.hid (HObD4513.out.keep HZ4D4513.out HND45136.out)
        clear hD45136
        refine Held2.Ways.one (i := 7) (by rfl) (by kernel_rfl) (fun K hK => ?_)
        obtain ⟨f0, f1, f2, f3, f4, f5, f6, f7, f8⟩ := row8_facts HZ5D45136.out
        go_simp
        refine hK.out _ _ (fun _ _ => HS.out _ (set8_below HBD45136.out (by rw [HG5.out]; exact HBD4.out.size) _ _ _ _ _ _ _ _)) ?_
        clear hK K
        try simp only [Act.put, List.setIfInBounds_toArray, List.set_cons_zero, List.set_cons_succ]
        clear f0 f1 f2 f3 f4 f5 f6 f7 f8
        obtain ⟨D451367, hD451367⟩ : ∃ V, V = ((((((((D45136.setCell ⟨g5, 0, none⟩ (.int .i64 p.kind)).setCell ⟨g5, 1, none⟩ (.slice Akb p.keys.length ckb)).setCell ⟨g5, 2, none⟩ (.slice Avb p.vals.length cvb)).setCell ⟨g5, 3, none⟩ (.slice Anb p.kids.length cnb)).setCell ⟨g5, 4, none⟩ (.int .i64 0)).setCell ⟨g5, 5, none⟩ (.int .i64 0)).setCell ⟨g5, 6, none⟩ (.int .i64 0)).setCell ⟨g5, 7, none⟩ (.int .i64 0)) := ⟨_, rfl⟩
        rw [← hD451367]
        have HND451367 : Hid (∀ k, k ≠ g5 → D451367.heap[k]? = D45136.heap[k]?) := fun k hk => by rw [hD451367]; exact set8_ne _ hk _ _ _ _ _ _ _ _
        have HBD451367 : Hid (Below W0.heap.size W0 D451367) := by rw [hD451367]; exact set8_below HBD45136.out (by rw [HG5.out]; exact HBD4.out.size) _ _ _ _ _ _ _ _
        have HZ5D451367 : Hid (D451367.heap[g5]? = some (.cells #[.int .i64 p.kind, .slice Akb p.keys.length ckb, .slice Avb p.vals.length cvb, .slice Anb p.kids.length cnb, .int .i64 0, .int .i64 0, .int .i64 0, .int .i64 0] 26 (0, 0))) := by rw [hD451367]; exact row8_set HZ5D45136.out _ _ _ _ _ _ _ _
        have HZ4D451367 := Lib.hid ((HND451367.out g4 HNE.out).trans HZ4D45136.out)
        have HOaD451367 := Lib.hid (HOaD45136.out.keep HZ5D45136.out HND451367.out)
        have HObD451367 := Lib.hid (HObD45136.out.keep HZ5D45136.out HND451367.out)
        clear hD451367
        refine Held2.Ways.done (by kernel_rfl) ?_ _
        go_wp2_with fail
        go_meet
        case rel => exact ⟨g4, g5, _, _, _, _, _, _, rfl, rfl, HOaD451367.out, HObD451367.out, HNE.out, by rw [HG4.out]; exact HBD.out.size, by rw [HG5.out]; exact HBD4.out.size, HZ4D451367.out, HZ5D451367.out, HBD451367.out⟩
    · go_simp
      refine hK.out _ _ (fun _ _ => HS.out _ (HBD.out.alloc HBD.out.size _)) ?_
      clear hK K
      try simp only [Act.put, List.setIfInBounds_toArray, List.set_cons_zero, List.set_cons_succ]
      obtain ⟨D5, hD5⟩ : ∃ V, V = D.alloc (.cells #[.int .i64 0, .slice none 0 0, .slice none 0 0, .slice none 0 0, .int .i64 0, .int .i64 0, .int .i64 0, .int .i64 0] 26) := ⟨_, rfl⟩
      rw [← hD5]
      have HLD5 : Hid (Below D.heap.size D D5) := by rw [hD5]; exact (Below.refl _ _).alloc (Nat.le_refl _) _
      have HBD5 : Hid (Below W0.heap.size W0 D5) := HBD.out.trans (HLD5.out.mono HBD.out.size)
      obtain ⟨g5, hg5⟩ : ∃ g, g = D.heap.size := ⟨_, rfl⟩
      rw [← hg5]
      have HG5 := Lib.hid hg5
      have HZ5D5 : Hid (D5.heap[g5]? = some (.cells #[.int .i64 0, .slice none 0 0, .slice none 0 0, .slice none 0 0, .int .i64 0, .int .i64 0, .int .i64 0, .int .i64 0] 26 (0, 0))) := by rw [hD5, hg5]; exact heap_alloc_new _ _
      clear hD5 hg5
      refine Held2.Ways.two (i := 1) (j := 4) (by rfl) (by rfl) (by kernel_rfl) (fun K hK => ?_) (fun K hK => ?_)
      · go_simp
        go_at_call 11
        refine (HC.out D5 (HBw.out.trans (HBD5.out.mono HSw.out))).mono ?_
        rintro e D51 ⟨kva, vva, nva, rfl, ho, hb⟩
        obtain ⟨Aka, cka, Ava, cva, Ana, cna, rfl, rfl, rfl⟩ := ho.rd.forms
        have HLD51 := Lib.hid hb
        have HOaD51 := Lib.hid (ho.base_ HBD5.out.size)
        have HBD51 := Lib.hid (HBD5.out.trans (hb.mono HBD5.out.size))
        clear ho hb
        have HZ5D51 := Lib.hid ((HLD51.out.block _ (Array.getElem?_eq_some_iff.1 HZ5D5.out).1).trans HZ5D5.out)
        dsimp only
        refine hK.out _ _ (fun _ _ => HS.out _ HBD51.out) ?_
        clear hK K
        try simp only [Act.put, List.setIfInBounds_toArray, List.set_cons_zero, List.set_cons_succ]
        refine Held2.Ways.two (i := 3) (j := 4) (by rfl) (by rfl) (by kernel_rfl) (fun K hK => ?_) (fun K hK => ?_)
        · go_simp
          go_at_call 11
          refine (HC.out D51 (HBw.out.trans (HBD51.out.mono HSw.out))).mono ?_
          rintro e D513 ⟨kvb, vvb, nvb, rfl, ho, hb⟩
          obtain ⟨Akb, ckb, Avb, cvb, Anb, cnb, rfl, rfl, rfl⟩ := ho.rd.forms
          have HLD513 := Lib.hid hb
          have HObD513 := Lib.hid (ho.base_ HBD51.out.size)
          have HBD513 := Lib.hid (HBD51.out.trans (hb.mono HBD51.out.size))
          clear ho hb
          have HZ5D513 := Lib.hid ((HLD513.out.block _ (Array.getElem?_eq_some_iff.1 HZ5D51.out).1).trans HZ5D51.out)
          have HOaD513 := Lib.hid (HOaD51.out.below HLD513.out)
          dsimp only
          refine hK.out _ _ (fun _ _ => HS.out _ HBD513.out) ?_
          clear hK K
          try simp only [Act.put, List.setIfInBounds_toArray, List.set_cons_zero, List.set_cons_succ]
          refine Held2.Ways.one (i := 4) (by rfl) (by kernel_rfl) (fun K hK => ?_)
          go_simp
          refine hK.out _ _ (fun _ _ => HS.out _ (HBD513.out.alloc HBD513.out.size _)) ?_
          clear hK K
          try simp only [Act.put, List.setIfInBounds_toArray, List.set_cons_zero, List.set_cons_succ]
          obtain ⟨D5134, hD5134⟩ : ∃ V, V = D513.alloc (.cells #[.int .i64 0, .slice none 0 0, .slice none 0 0, .slice none 0 0, .int .i64 0, .int .i64 0, .int .i64 0, .int .i64 0] 26) := ⟨_, rfl⟩
          rw [← hD5134]
          have HLD5134 : Hid (Below D513.heap.size D513 D5134) := by rw [hD5134]; exact (Below.refl _ _).alloc (Nat.le_refl _) _
          have HBD5134 : Hid (Below W0.heap.size W0 D5134) := HBD513.out.trans (HLD5134.out.mono HBD513.out.size)
          obtain ⟨g4, hg4⟩ : ∃ g, g = D513.heap.size := ⟨_, rfl⟩
          rw [← hg4]
          have HG4 := Lib.hid hg4
          have HZ4D5134 : Hid (D5134.heap[g4]? = some (.cells #[.int .i64 0, .slice none 0 0, .slice none 0 0, .slice none 0 0, .int .i64 0, .int .i64 0, .int .i64 0, .int .i64 0] 26 (0, 0))) := by rw [hD5134, hg4]; exact heap_alloc_new _ _
          clear hD5134 hg4
          have HZ5D5134 := Lib.hid ((HLD5134.out.block _ (Array.getElem?_eq_some_iff.1 HZ5D513.out).1).trans HZ5D513.out)
          have HOaD5134 := Lib.hid (HOaD513.out.below HLD5134.out)
          have HObD5134 := Lib.hid (HObD513.out.below HLD5134.out)
          refine Held2.Ways.one (i := 6) (by rfl) (by kernel_rfl) (fun K hK => ?_)
          have HNE : Hid (g4 ≠ g5) := fun e => by
            have h1 := HG4.out
            have h2 := HG5.out
            have h3 := (Array.getElem?_eq_some_iff.1 HZ5D513.out).1
            omega
          obtain ⟨f0, f1, f2, f3, f4, f5, f6, f7, f8⟩ := row8_facts HZ4D5134.out
          go_simp
          refine hK.out _ _ (fun _ _ => HS.out _ (set8_below HBD5134.out (by rw [HG4.out]; exact HBD513.out.size) _ _ _ _ _ _ _ _)) ?_
          clear hK K
          try simp only [Act.put, List.setIfInBounds_toArray, List.set_cons_zero, List.set_cons_succ]
          clear f0 f1 f2 f3 f4 f5 f6 f7 f8
          obtain ⟨D51346, hD51346⟩ : ∃ V, V = ((((((((D5134.setCell ⟨g4, 0, none⟩ (.int .i64 p.kind)).setCell ⟨g4, 1, none⟩ (.slice Aka p.keys.length cka)).setCell ⟨g4, 2, none⟩ (.slice Ava p.vals.length cva)).setCell ⟨g4, 3, none⟩ (.slice Ana p.kids.length cna)).setCell ⟨g4, 4, none⟩ (.int .i64 0)).setCell ⟨g4, 5, none⟩ (.int .i64 0)).setCell ⟨g4, 6, none⟩ (.int .i64 0)).setCell ⟨g4, 7, none⟩ (.int .i64 0)) := ⟨_, rfl⟩
          rw [← hD51346]
          have HND51346 : Hid (∀ k, k ≠ g4 → D51346.heap[k]? = D5134.heap[k]?) := fun k hk => by rw [hD51346]; exact set8_ne _ hk _ _ _ _ _ _ _ _
          have HBD51346 : Hid (Below W0.heap.size W0 D51346) := by rw [hD51346]; exact set8_below HBD5134.out (by rw [HG4.out]; exact HBD513.out.size) _ _ _ _ _ _ _ _
          have HZ4D51346 : Hid (D51346.heap[g4]? = some (.cells #[.int .i64 p.kind, .slice Aka p.keys.length cka, .slice Ava p.vals.length cva, .slice Ana p.kids.length cna, .int .i64 0, .int .i64 0, .int .i64 0, .int .i64 0] 26 (0, 0))) := by rw [hD51346]; exact row8_set HZ4D5134.out _ _ _ _ _ _ _ _
          have HZ5D51346 := Lib.hid ((HND51346.out g5 (Ne.symm HNE.out)).trans HZ5D5134.out)
          have HOaD51346 := Lib.hid (HOaD5134.out.keep HZ4D5134.out HND51346.out)
          have HObD51346 := Lib.hid (HObD5134.out.keep HZ4D5134.out HND51346.out)
          clear hD51346
          refine Held2.Ways.one (i := 7) (by rfl) (by kernel_rfl) (fun K hK => ?_)
          obtain ⟨f0, f1, f2, f3, f4, f5, f6, f7, f8⟩ := row8_facts HZ5D51346.out
          go_simp
          refine hK.out _ _ (fun _ _ => HS.out _ (set8_below HBD51346.out (by rw [HG5.out]; exact HBD.out.size) _ _ _ _ _ _ _ _)) ?_
          clear hK K
          try simp only [Act.put, List.setIfInBounds_toArray, List.set_cons_zero, List.set_cons_succ]
          clear f0 f1 f2 f3 f4 f5 f6 f7 f8
          obtain ⟨D513467, hD513467⟩ : ∃ V, V = ((((((((D51346.setCell ⟨g5, 0, none⟩ (.int .i64 p.kind)).setCell ⟨g5, 1, none⟩ (.slice Akb p.keys.length ckb)).setCell ⟨g5, 2, none⟩ (.slice Avb p.vals.length cvb)).setCell ⟨g5, 3, none⟩ (.slice Anb p.kids.length cnb)).setCell ⟨g5, 4, none⟩ (.int .i64 0)).setCell ⟨g5, 5, none⟩ (.int .i64 0)).setCell ⟨g5, 6, none⟩ (.int .i64 0)).setCell ⟨g5, 7, none⟩ (.int .i64 0)) := ⟨_, rfl⟩
          rw [← hD513467]
          have HND513467 : Hid (∀ k, k ≠ g5 → D513467.heap[k]? = D51346.heap[k]?) := fun k hk => by rw [hD513467]; exact set8_ne _ hk _ _ _ _ _ _ _ _
          have HBD513467 : Hid (Below W0.heap.size W0 D513467) := by rw [hD513467]; exact set8_below HBD51346.out (by rw [HG5.out]; exact HBD.out.size) _ _ _ _ _ _ _ _
          have HZ5D513467 : Hid (D513467.heap[g5]? = some (.cells #[.int .i64 p.kind, .slice Akb p.keys.length ckb, .slice Avb p.vals.length cvb, .slice Anb p.kids.length cnb, .int .i64 0, .int .i64 0, .int .i64 0, .int .i64 0] 26 (0, 0))) := by rw [hD513467]; exact row8_set HZ5D51346.out _ _ _ _ _ _ _ _
          have HZ4D513467 := Lib.hid ((HND513467.out g4 HNE.out).trans HZ4D51346.out)
          have HOaD513467 := Lib.hid (HOaD51346.out.keep HZ5D51346.out HND513467.out)
          have HObD513467 := Lib.hid (HObD51346.out.keep HZ5D51346.out HND513467.out)
          clear hD513467
          refine Held2.Ways.done (by kernel_rfl) ?_ _
          go_wp2_with fail
          go_meet
          case rel => exact ⟨g4, g5, _, _, _, _, _, _, rfl, rfl, HOaD513467.out, HObD513467.out, HNE.out, by rw [HG4.out]; exact HBD513.out.size, by rw [HG5.out]; exact HBD.out.size, HZ4D513467.out, HZ5D513467.out, HBD513467.out⟩
        · go_simp
          refine hK.out _ _ (fun _ _ => HS.out _ (HBD51.out.alloc HBD51.out.size _)) ?_
          clear hK K
          try simp only [Act.put, List.setIfInBounds_toArray, List.set_cons_zero, List.set_cons_succ]
          obtain ⟨D514, hD514⟩ : ∃ V, V = D51.alloc (.cells #[.int .i64 0, .slice none 0 0, .slice none 0 0, .slice none 0 0, .int .i64 0, .int .i64 0, .int .i64 0, .int .i64 0] 26) := ⟨_, rfl⟩
          rw [← hD514]
          have HLD514 : Hid (Below D51.heap.size D51 D514) := by rw [hD514]; exact (Below.refl _ _).alloc (Nat.le_refl _) _
          have HBD514 : Hid (Below W0.heap.size W0 D514) := HBD51.out.trans (HLD514.out.mono HBD51.out.size)
          obtain ⟨g4, hg4⟩ : ∃ g, g = D51.heap.size := ⟨_, rfl⟩
          rw [← hg4]
          have HG4 := Lib.hid hg4
          have HZ4D514 : Hid (D514.heap[g4]? = some (.cells #[.int .i64 0, .slice none 0 0, .slice none 0 0, .slice none 0 0, .int .i64 0, .int .i64 0, .int .i64 0, .int .i64 0] 26 (0, 0))) := by rw [hD514, hg4]; exact heap_alloc_new _ _
          clear hD514 hg4
          have HZ5D514 := Lib.hid ((HLD514.out.block _ (Array.getElem?_eq_some_iff.1 HZ5D51.out).1).trans HZ5D51.out)
          have HOaD514 := Lib.hid (HOaD51.out.below HLD514.out)
          refine Held2.Ways.one (i := 3) (by rfl) (by kernel_rfl) (fun K hK => ?_)
          go_simp
          go_at_call 11
          refine (HC.out D514 (HBw.out.trans (HBD514.out.mono HSw.out))).mono ?_
          rintro e D5143 ⟨kvb, vvb, nvb, rfl, ho, hb⟩
          obtain ⟨Akb, ckb, Avb, cvb, Anb, cnb, rfl, rfl, rfl⟩ := ho.rd.forms
          have HLD5143 := Lib.hid hb
          have HObD5143 := Lib.hid (ho.base_ HBD514.out.size)
          have HBD5143 := Lib.hid (HBD514.out.trans (hb.mono HBD514.out.size))
          clear ho hb
          have HZ5D5143 := Lib.hid ((HLD5143.out.block _ (Array.getElem?_eq_some_iff.1 HZ5D514.out).1).trans HZ5D514.out)
          have HOaD5143 := Lib.hid (HOaD514.out.below HLD5143.out)
          have HZ4D5143 := Lib.hid ((HLD5143.out.block _ (Array.getElem?_eq_some_iff.1 HZ4D514.out).1).trans HZ4D514.out)
          dsimp only
          refine hK.out _ _ (fun _ _ => HS.out _ HBD5143.out) ?_
          clear hK K
          try simp only [Act.put, List.setIfInBounds_toArray, List.set_cons_zero, List.set_cons_succ]
          refine Held2.Ways.one (i := 6) (by rfl) (by kernel_rfl) (fun K hK => ?_)
          have HNE : Hid (g4 ≠ g5) := fun e => by
            have h1 := HG4.out
            have h2 := HG5.out
            have h3 := (Array.getElem?_eq_some_iff.1 HZ5D51.out).1
            omega
          obtain ⟨f0, f1, f2, f3, f4, f5, f6, f7, f8⟩ := row8_facts HZ4D5143.out
          go_simp
          refine hK.out _ _ (fun _ _ => HS.out _ (set8_below HBD5143.out (by rw [HG4.out]; exact HBD51.out.size) _ _ _ _ _ _ _ _)) ?_
          clear hK K
          try simp only [Act.put, List.setIfInBounds_toArray, List.set_cons_zero, List.set_cons_succ]
          clear f0 f1 f2 f3 f4 f5 f6 f7 f8
          obtain ⟨D51436, hD51436⟩ : ∃ V, V = ((((((((D5143.setCell ⟨g4, 0, none⟩ (.int .i64 p.kind)).setCell ⟨g4, 1, none⟩ (.slice Aka p.keys.length cka)).setCell ⟨g4, 2, none⟩ (.slice Ava p.vals.length cva)).setCell ⟨g4, 3, none⟩ (.slice Ana p.kids.length cna)).setCell ⟨g4, 4, none⟩ (.int .i64 0)).setCell ⟨g4, 5, none⟩ (.int .i64 0)).setCell ⟨g4, 6, none⟩ (.int .i64 0)).setCell ⟨g4, 7, none⟩ (.int .i64 0)) := ⟨_, rfl⟩
          rw [← hD51436]
          have HND51436 : Hid (∀ k, k ≠ g4 → D51436.heap[k]? = D5143.heap[k]?) := fun k hk => by rw [hD51436]; exact set8_ne _ hk _ _ _ _ _ _ _ _
          have HBD51436 : Hid (Below W0.heap.size W0 D51436) := by rw [hD51436]; exact set8_below HBD5143.out (by rw [HG4.out]; exact HBD51.out.size) _ _ _ _ _ _ _ _
          have HZ4D51436 : Hid (D51436.heap[g4]? = some (.cells #[.int .i64 p.kind, .slice Aka p.keys.length cka, .slice Ava p.vals.length cva, .slice Ana p.kids.length cna, .int .i64 0, .int .i64 0, .int .i64 0, .int .i64 0] 26 (0, 0))) := by rw [hD51436]; exact row8_set HZ4D5143.out _ _ _ _ _ _ _ _
          have HZ5D51436 := Lib.hid ((HND51436.out g5 (Ne.symm HNE.out)).trans HZ5D5143.out)
          have HOaD51436 := Lib.hid (HOaD5143.out.keep HZ4D5143.out HND51436.out)
          have HObD51436 := Lib.hid (HObD5143.out.keep HZ4D5143.out HND51436.out)
          clear hD51436
          refine Held2.Ways.one (i := 7) (by rfl) (by kernel_rfl) (fun K hK => ?_)
          obtain ⟨f0, f1, f2, f3, f4, f5, f6, f7, f8⟩ := row8_facts HZ5D51436.out
          go_simp
          refine hK.out _ _ (fun _ _ => HS.out _ (set8_below HBD51436.out (by rw [HG5.out]; exact HBD.out.size) _ _ _ _ _ _ _ _)) ?_
          clear hK K
          try simp only [Act.put, List.setIfInBounds_toArray, List.set_cons_zero, List.set_cons_succ]
          clear f0 f1 f2 f3 f4 f5 f6 f7 f8
          obtain ⟨D514367, hD514367⟩ : ∃ V, V = ((((((((D51436.setCell ⟨g5, 0, none⟩ (.int .i64 p.kind)).setCell ⟨g5, 1, none⟩ (.slice Akb p.keys.length ckb)).setCell ⟨g5, 2, none⟩ (.slice Avb p.vals.length cvb)).setCell ⟨g5, 3, none⟩ (.slice Anb p.kids.length cnb)).setCell ⟨g5, 4, none⟩ (.int .i64 0)).setCell ⟨g5, 5, none⟩ (.int .i64 0)).setCell ⟨g5, 6, none⟩ (.int .i64 0)).setCell ⟨g5, 7, none⟩ (.int .i64 0)) := ⟨_, rfl⟩
          rw [← hD514367]
          have HND514367 : Hid (∀ k, k ≠ g5 → D514367.heap[k]? = D51436.heap[k]?) := fun k hk => by rw [hD514367]; exact set8_ne _ hk _ _ _ _ _ _ _ _
          have HBD514367 : Hid (Below W0.heap.size W0 D514367) := by rw [hD514367]; exact set8_below HBD51436.out (by rw [HG5.out]; exact HBD.out.size) _ _ _ _ _ _ _ _
          have HZ5D514367 : Hid (D514367.heap[g5]? = some (.cells #[.int .i64 p.kind, .slice Akb p.keys.length ckb, .slice Avb p.vals.length cvb, .slice Anb p.kids.length cnb, .int .i64 0, .int .i64 0, .int .i64 0, .int .i64 0] 26 (0, 0))) := by rw [hD514367]; exact row8_set HZ5D51436.out _ _ _ _ _ _ _ _
          have HZ4D514367 := Lib.hid ((HND514367.out g4 HNE.out).trans HZ4D51436.out)
          have HOaD514367 := Lib.hid (HOaD51436.out.keep HZ5D51436.out HND514367.out)
          have HObD514367 := Lib.hid (HObD51436.out.keep HZ5D51436.out HND514367.out)
          clear hD514367
          refine Held2.Ways.done (by kernel_rfl) ?_ _
          go_wp2_with fail
          go_meet
          case rel => exact ⟨g4, g5, _, _, _, _, _, _, rfl, rfl, HOaD514367.out, HObD514367.out, HNE.out, by rw [HG4.out]; exact HBD51.out.size, by rw [HG5.out]; exact HBD.out.size, HZ4D514367.out, HZ5D514367.out, HBD514367.out⟩
      · go_simp
        refine hK.out _ _ (fun _ _ => HS.out _ (HBD5.out.alloc HBD5.out.size _)) ?_
        clear hK K
        try simp only [Act.put, List.setIfInBounds_toArray, List.set_cons_zero, List.set_cons_succ]
        obtain ⟨D54, hD54⟩ : ∃ V, V = D5.alloc (.cells #[.int .i64 0, .slice none 0 0, .slice none 0 0, .slice none 0 0, .int .i64 0, .int .i64 0, .int .i64 0, .int .i64 0] 26) := ⟨_, rfl⟩
        rw [← hD54]
        have HLD54 : Hid (Below D5.heap.size D5 D54) := by rw [hD54]; exact (Below.refl _ _).alloc (Nat.le_refl _) _
        have HBD54 : Hid (Below W0.heap.size W0 D54) := HBD5.out.trans (HLD54.out.mono HBD5.out.size)
        obtain ⟨g4, hg4⟩ : ∃ g, g = D5.heap.size := ⟨_, rfl⟩
        rw [← hg4]
        have HG4 := Lib.hid hg4
        have HZ4D54 : Hid (D54.heap[g4]? = some (.cells #[.int .i64 0, .slice none 0 0, .slice none 0 0, .slice none 0 0, .int .i64 0, .int .i64 0, .int .i64 0, .int .i64 0] 26 (0, 0))) := by rw [hD54, hg4]; exact heap_alloc_new _ _
        clear hD54 hg4
        have HZ5D54 := Lib.hid ((HLD54.out.block _ (Array.getElem?_eq_some_iff.1 HZ5D5.out).1).trans HZ5D5.out)
        refine Held2.Ways.one (i := 1) (by rfl) (by kernel_rfl) (fun K hK => ?_)
        go_simp
        go_at_call 11
        refine (HC.out D54 (HBw.out.trans (HBD54.out.mono HSw.out))).mono ?_
        rintro e D541 ⟨kva, vva, nva, rfl, ho, hb⟩
        obtain ⟨Aka, cka, Ava, cva, Ana, cna, rfl, rfl, rfl⟩ := ho.rd.forms
        have HLD541 := Lib.hid hb
        have HOaD541 := Lib.hid (ho.base_ HBD54.out.size)
        have HBD541 := Lib.hid (HBD54.out.trans (hb.mono HBD54.out.size))
        clear ho hb
        have HZ5D541 := Lib.hid ((HLD541.out.block _ (Array.getElem?_eq_some_iff.1 HZ5D54.out).1).trans HZ5D54.out)
        have HZ4D541 := Lib.hid ((HLD541.out.block _ (Array.getElem?_eq_some_iff.1 HZ4D54.out).1).trans HZ4D54.out)
        dsimp only
        refine hK.out _ _ (fun _ _ => HS.out _ HBD541.out) ?_
        clear hK K
        try simp only [Act.put, List.setIfInBounds_toArray, List.set_cons_zero, List.set_cons_succ]
        refine Held2.Ways.one (i := 3) (by rfl) (by kernel_rfl) (fun K hK => ?_)
        go_simp
        go_at_call 11
        refine (HC.out D541 (HBw.out.trans (HBD541.out.mono HSw.out))).mono ?_
        rintro e D5413 ⟨kvb, vvb, nvb, rfl, ho, hb⟩
        obtain ⟨Akb, ckb, Avb, cvb, Anb, cnb, rfl, rfl, rfl⟩ := ho.rd.forms
        have HLD5413 := Lib.hid hb
        have HObD5413 := Lib.hid (ho.base_ HBD541.out.size)
        have HBD5413 := Lib.hid (HBD541.out.trans (hb.mono HBD541.out.size))
        clear ho hb
        have HZ5D5413 := Lib.hid ((HLD5413.out.block _ (Array.getElem?_eq_some_iff.1 HZ5D541.out).1).trans HZ5D541.out)
        have HZ4D5413 := Lib.hid ((HLD5413.out.block _ (Array.getElem?_eq_some_iff.1 HZ4D541.out).1).trans HZ4D541.out)
        have HOaD5413 := Lib.hid (HOaD541.out.below HLD5413.out)
        dsimp only
        refine hK.out _ _ (fun _ _ => HS.out _ HBD5413.out) ?_
        clear hK K
        try simp only [Act.put, List.setIfInBounds_toArray, List.set_cons_zero, List.set_cons_succ]
        refine Held2.Ways.one (i := 6) (by rfl) (by kernel_rfl) (fun K hK => ?_)
        have HNE : Hid (g4 ≠ g5) := fun e => by
          have h1 := HG4.out
          have h2 := HG5.out
          have h3 := (Array.getElem?_eq_some_iff.1 HZ5D5.out).1
          omega
        obtain ⟨f0, f1, f2, f3, f4, f5, f6, f7, f8⟩ := row8_facts HZ4D5413.out
        go_simp
        refine hK.out _ _ (fun _ _ => HS.out _ (set8_below HBD5413.out (by rw [HG4.out]; exact HBD5.out.size) _ _ _ _ _ _ _ _)) ?_
        clear hK K
        try simp only [Act.put, List.setIfInBounds_toArray, List.set_cons_zero, List.set_cons_succ]
        clear f0 f1 f2 f3 f4 f5 f6 f7 f8
        obtain ⟨D54136, hD54136⟩ : ∃ V, V = ((((((((D5413.setCell ⟨g4, 0, none⟩ (.int .i64 p.kind)).setCell ⟨g4, 1, none⟩ (.slice Aka p.keys.length cka)).setCell ⟨g4, 2, none⟩ (.slice Ava p.vals.length cva)).setCell ⟨g4, 3, none⟩ (.slice Ana p.kids.length cna)).setCell ⟨g4, 4, none⟩ (.int .i64 0)).setCell ⟨g4, 5, none⟩ (.int .i64 0)).setCell ⟨g4, 6, none⟩ (.int .i64 0)).setCell ⟨g4, 7, none⟩ (.int .i64 0)) := ⟨_, rfl⟩
        rw [← hD54136]
        have HND54136 : Hid (∀ k, k ≠ g4 → D54136.heap[k]? = D5413.heap[k]?) := fun k hk => by rw [hD54136]; exact set8_ne _ hk _ _ _ _ _ _ _ _
        have HBD54136 : Hid (Below W0.heap.size W0 D54136) := by rw [hD54136]; exact set8_below HBD5413.out (by rw [HG4.out]; exact HBD5.out.size) _ _ _ _ _ _ _ _
        have HZ4D54136 : Hid (D54136.heap[g4]? = some (.cells #[.int .i64 p.kind, .slice Aka p.keys.length cka, .slice Ava p.vals.length cva, .slice Ana p.kids.length cna, .int .i64 0, .int .i64 0, .int .i64 0, .int .i64 0] 26 (0, 0))) := by rw [hD54136]; exact row8_set HZ4D5413.out _ _ _ _ _ _ _ _
        have HZ5D54136 := Lib.hid ((HND54136.out g5 (Ne.symm HNE.out)).trans HZ5D5413.out)
        have HOaD54136 := Lib.hid (HOaD5413.out.keep HZ4D5413.out HND54136.out)
        have HObD54136 := Lib.hid (HObD5413.out.keep HZ4D5413.out HND54136.out)
        clear hD54136
        refine Held2.Ways.one (i := 7) (by rfl) (by kernel_rfl) (fun K hK => ?_)
        obtain ⟨f0, f1, f2, f3, f4, f5, f6, f7, f8⟩ := row8_facts HZ5D54136.out
        go_simp
        refine hK.out _ _ (fun _ _ => HS.out _ (set8_below HBD54136.out (by rw [HG5.out]; exact HBD.out.size) _ _ _ _ _ _ _ _)) ?_
        clear hK K
        try simp only [Act.put, List.setIfInBounds_toArray, List.set_cons_zero, List.set_cons_succ]
        clear f0 f1 f2 f3 f4 f5 f6 f7 f8
        obtain ⟨D541367, hD541367⟩ : ∃ V, V = ((((((((D54136.setCell ⟨g5, 0, none⟩ (.int .i64 p.kind)).setCell ⟨g5, 1, none⟩ (.slice Akb p.keys.length ckb)).setCell ⟨g5, 2, none⟩ (.slice Avb p.vals.length cvb)).setCell ⟨g5, 3, none⟩ (.slice Anb p.kids.length cnb)).setCell ⟨g5, 4, none⟩ (.int .i64 0)).setCell ⟨g5, 5, none⟩ (.int .i64 0)).setCell ⟨g5, 6, none⟩ (.int .i64 0)).setCell ⟨g5, 7, none⟩ (.int .i64 0)) := ⟨_, rfl⟩
        rw [← hD541367]
        have HND541367 : Hid (∀ k, k ≠ g5 → D541367.heap[k]? = D54136.heap[k]?) := fun k hk => by rw [hD541367]; exact set8_ne _ hk _ _ _ _ _ _ _ _
        have HBD541367 : Hid (Below W0.heap.size W0 D541367) := by rw [hD541367]; exact set8_below HBD54136.out (by rw [HG5.out]; exact HBD.out.size) _ _ _ _ _ _ _ _
        have HZ5D541367 : Hid (D541367.heap[g5]? = some (.cells #[.int .i64 p.kind, .slice Akb p.keys.length ckb, .slice Avb p.vals.length cvb, .slice Anb p.kids.length cnb, .int .i64 0, .int .i64 0, .int .i64 0, .int .i64 0] 26 (0, 0))) := by rw [hD541367]; exact row8_set HZ5D54136.out _ _ _ _ _ _ _ _
        have HZ4D541367 := Lib.hid ((HND541367.out g4 HNE.out).trans HZ4D54136.out)
        have HOaD541367 := Lib.hid (HOaD54136.out.keep HZ5D54136.out HND541367.out)
        have HObD541367 := Lib.hid (HObD54136.out.keep HZ5D54136.out HND541367.out)
        clear hD541367
        refine Held2.Ways.done (by kernel_rfl) ?_ _
        go_wp2_with fail
        go_meet
        case rel => exact ⟨g4, g5, _, _, _, _, _, _, rfl, rfl, HOaD541367.out, HObD541367.out, HNE.out, by rw [HG4.out]; exact HBD5.out.size, by rw [HG5.out]; exact HBD.out.size, HZ4D541367.out, HZ5D541367.out, HBD541367.out⟩
  case rest =>
    obtain ⟨g5, g6, ka, va, na, kb, vb, nb, rfl, rfl, ha, hb, hne, h5, h6, hr5, hr6, hbl⟩ := hcut
    obtain ⟨Aka, cka, Ava, cva, Ana, cna, rfl, rfl, rfl⟩ := ha.rd.forms
    obtain ⟨Akb, ckb, Avb, cvb, Anb, cnb, rfl, rfl, rfl⟩ := hb.rd.forms
    obtain ⟨f0, f1, f2, f3, f4, f5, f6, f7, f8⟩ := row8_facts (HS.out wc hbl)
    have HAwc := Lib.hid ha
    have HBwc := Lib.hid hb
    have HNE := Lib.hid hne
    have H5 := Lib.hid h5
    have H6 := Lib.hid h6
    have HR5wc := Lib.hid hr5
    have HR6wc := Lib.hid hr6
    have HLwc := Lib.hid hbl
    clear ha hb hne h5 h6 hr5 hr6 hbl
    rcases HKIND.out with ⟨hk, hk2, hk3⟩ | ⟨hk, hk2, hk3⟩
    · have kb1 : (p.kind == 1) = true := by simp [hk]
      obtain ⟨m, hm⟩ : ∃ m, m = p.keys.length / 2 := ⟨_, rfl⟩
      have ew : wrap64 ((p.keys.length : Int) / 2) = (m : Int) := by
        unfold wrap64; have := HLENS.out; omega
      have m0 : (0 : Int) ≤ (m : Int) := by omega
      have m1 : 1 ≤ m := by omega
      have m2 : m < p.keys.length := by omega
      obtain ⟨gka, oka, rfl, c1, _, _⟩ := own_some HAwc.out.keys (by omega)
      obtain ⟨gva, ova, rfl, c2, _, _⟩ := own_some HAwc.out.vals (by omega)
      obtain ⟨gkb, okb, rfl, c3, b3, _⟩ := own_some HBwc.out.keys (by omega)
      obtain ⟨gvb, ovb, rfl, c4, _, _⟩ := own_some HBwc.out.vals (by omega)
      have n1 : m ≤ cka := by omega
      have n2 : m ≤ cva := by omega
      have n3 : m ≤ p.keys.length := by omega
      have n4 : m ≤ p.vals.length := by omega
      have n5 : ¬ (ckb = m) := by omega
      have n6 : ¬ (cvb = m) := by omega
      have n7 : (0 : Int) < ((p.keys.length - m : Nat) : Int) := by omega
      have n8 : ¬ (cka = m) := by omega
      have n9 : 0 < p.keys.length - m := by omega
      have HGB : Hid (W0.heap.size ≤ gkb) := b3
      have HK1 := Lib.hid hk
      have HK2 := Lib.hid hk2
      have HK3 := Lib.hid hk3
      have HM := Lib.hid hm
      clear hk hk2 hk3 hm b3
      go_upto_region 4 with fail
      refine Held2.ways_start (fun W => W.heap[g5]? = some (.cells #[.int .i64 p.kind, .slice (some ⟨gka, oka, none⟩) p.keys.length cka, .slice (some ⟨gva, ova, none⟩) p.vals.length cva, .slice Ana p.kids.length cna, .int .i64 0, .int .i64 0, .int .i64 0, .int .i64 0] 26 (0, 0))) (fun k => decide (k ≠ 9 ∧ k ≠ 11)) (by kernel_rfl) ?_
      obtain ⟨DX4, hD⟩ : ∃ D, D = wc.drew := ⟨_, rfl⟩
      rw [← hD]
      have HR5DX4 : Hid (DX4.heap[g5]? = some (.cells #[.int .i64 p.kind, .slice (some ⟨gka, oka, none⟩) p.keys.length cka, .slice (some ⟨gva, ova, none⟩) p.vals.length cva, .slice Ana p.kids.length cna, .int .i64 0, .int .i64 0, .int .i64 0, .int .i64 0] 26 (0, 0))) := by rw [hD]; exact HR5wc.out
      have HR6DX4 : Hid (DX4.heap[g6]? = some (.cells #[.int .i64 p.kind, .slice (some ⟨gkb, okb, none⟩) p.keys.length ckb, .slice (some ⟨gvb, ovb, none⟩) p.vals.length cvb, .slice Anb p.kids.length cnb, .int .i64 0, .int .i64 0, .int .i64 0, .int .i64 0] 26 (0, 0))) := by rw [hD]; exact HR6wc.out
      have HADX4 : Hid (PgO DX4 W0.heap.size (.slice (some ⟨gka, oka, none⟩) p.keys.length cka) (.slice (some ⟨gva, ova, none⟩) p.vals.length cva) (.slice Ana p.kids.length cna) p) := by rw [hD]; exact HAwc.out.drew
      have HBDX4 : Hid (PgO DX4 W0.heap.size (.slice (some ⟨gkb, okb, none⟩) p.keys.length ckb) (.slice (some ⟨gvb, ovb, none⟩) p.vals.length cvb) (.slice Anb p.kids.length cnb) p) := by rw [hD]; exact HBwc.out.drew
      have HLDX4 : Hid (Below W0.heap.size W0 DX4) := by rw [hD]; exact HLwc.out.drew
      clear hD
      have HSX : DX4.heap[g5]? = some (.cells #[.int .i64 p.kind, .slice (some ⟨gka, oka, none⟩) p.keys.length cka, .slice (some ⟨gva, ova, none⟩) p.vals.length cva, .slice Ana p.kids.length cna, .int .i64 0, .int .i64 0, .int .i64 0, .int .i64 0] 26 (0, 0)) := HR5DX4.out
      clear f0 f1 f2 f3 f4 f5 f6 f7 f8
      refine Held2.Ways.plain (i := 0) (oi := ?o3) ?v3 ?hi3 ?hs3 ?hf3 ?hr3 ?hQ3 ?hy3 ?rest3
      case hi3 => exact rfl
      case hs3 => kernel_rfl
      case hf3 => kernel_rfl
      case hr3 => kernel_rfl
      case hQ3 => exact fun _ _ _ h => h
      case hy3 =>
        refine .inl ⟨by rfl, fun W _ => ?_⟩
        go_simp
        try with_reducible rfl
      try simp only [Act.put, List.setIfInBounds_toArray, List.set_cons_zero, List.set_cons_succ]
      refine Held2.Ways.take (i := 1) (oi := ?o4) ?v4 ?hi4 ?hs4 ?hf4 ?hlw4 ?hr4 ?hQ4 HSX ?hy4 ?rest4
      case hi4 => exact rfl
      case hs4 => kernel_rfl
      case hf4 => kernel_rfl
      case hlw4 => kernel_rfl
      case hr4 => kernel_rfl
      case hQ4 => exact fun _ _ _ h => h
      case hy4 =>
        refine .inl ⟨by rfl, fun W hW => ?_⟩
        obtain ⟨f0, f1, f2, f3, f4, f5, f6, f7, f8⟩ := row8_facts hW
        go_simp
        try with_reducible rfl
      try simp only [Act.put, List.setIfInBounds_toArray, List.set_cons_zero, List.set_cons_succ]
      refine Held2.Ways.plain (i := 2) (oi := ?o5) ?v5 ?hi5 ?hs5 ?hf5 ?hr5 ?hQ5 ?hy5 ?rest5
      case hi5 => exact rfl
      case hs5 => kernel_rfl
      case hf5 => kernel_rfl
      case hr5 => kernel_rfl
      case hQ5 => exact fun _ _ _ h => h
      case hy5 =>
        refine .inl ⟨by rfl, fun W _ => ?_⟩
        go_simp
        try with_reducible rfl
      try simp only [Act.put, List.setIfInBounds_toArray, List.set_cons_zero, List.set_cons_succ]
      refine Held2.Ways.plain (i := 3) (oi := ?o6) ?v6 ?hi6 ?hs6 ?hf6 ?hr6 ?hQ6 ?hy6 ?rest6
      case hi6 => exact rfl
      case hs6 => kernel_rfl
      case hf6 => kernel_rfl
      case hr6 => kernel_rfl
      case hQ6 => exact fun _ _ _ h => h
      case hy6 =>
        refine .inl ⟨by rfl, fun W _ => ?_⟩
        go_simp
        try with_reducible rfl
      try simp only [Act.put, List.setIfInBounds_toArray, List.set_cons_zero, List.set_cons_succ]
      refine Held2.Ways.plain (i := 4) (oi := ?o7) ?v7 ?hi7 ?hs7 ?hf7 ?hr7 ?hQ7 ?hy7 ?rest7
      case hi7 => exact rfl
      case hs7 => kernel_rfl
      case hf7 => kernel_rfl
      case hr7 => kernel_rfl
      case hQ7 => exact fun _ _ _ h => h
      case hy7 =>
        refine .inl ⟨by rfl, fun W _ => ?_⟩
        go_simp
        try with_reducible rfl
      try simp only [Act.put, List.setIfInBounds_toArray, List.set_cons_zero, List.set_cons_succ]
      refine Held2.Ways.take (i := 5) (oi := ?o8) ?v8 ?hi8 ?hs8 ?hf8 ?hlw8 ?hr8 ?hQ8 HSX ?hy8 ?rest8
      case hi8 => exact rfl
      case hs8 => kernel_rfl
      case hf8 => kernel_rfl
      case hlw8 => kernel_rfl
      case hr8 => kernel_rfl
      case hQ8 => exact fun _ _ _ h => h
      case hy8 =>
        refine .inl ⟨by rfl, fun W hW => ?_⟩
        obtain ⟨f0, f1, f2, f3, f4, f5, f6, f7, f8⟩ := row8_facts hW
        go_simp
        try with_reducible rfl
      try simp only [Act.put, List.setIfInBounds_toArray, List.set_cons_zero, List.set_cons_succ]
      refine Held2.Ways.plain (i := 6) (oi := ?o9) ?v9 ?hi9 ?hs9 ?hf9 ?hr9 ?hQ9 ?hy9 ?rest9
      case hi9 => exact rfl
      case hs9 => kernel_rfl
      case hf9 => kernel_rfl
      case hr9 => kernel_rfl
      case hQ9 => exact fun _ _ _ h => h
      case hy9 =>
        refine .inl ⟨by rfl, fun W _ => ?_⟩
        go_simp
        try with_reducible rfl
      try simp only [Act.put, List.setIfInBounds_toArray, List.set_cons_zero, List.set_cons_succ]
      refine Held2.Ways.plain (i := 7) (oi := ?o10) ?v10 ?hi10 ?hs10 ?hf10 ?hr10 ?hQ10 ?hy10 ?rest10
      case hi10 => exact rfl
      case hs10 => kernel_rfl
      case hf10 => kernel_rfl
      case hr10 => kernel_rfl
      case hQ10 => exact fun _ _ _ h => h
      case hy10 =>
        refine .inl ⟨by rfl, fun W _ => ?_⟩
        go_simp
        try with_reducible rfl
      try simp only [Act.put, List.setIfInBounds_toArray, List.set_cons_zero, List.set_cons_succ]
      refine Held2.Ways.plain (i := 8) (oi := ?o11) ?v11 ?hi11 ?hs11 ?hf11 ?hr11 ?hQ11 ?hy11 ?rest11
      case hi11 => exact rfl
      case hs11 => kernel_rfl
      case hf11 => kernel_rfl
      case hr11 => kernel_rfl
      case hQ11 => exact fun _ _ _ h => h
      case hy11 =>
        refine .inl ⟨by rfl, fun W _ => ?_⟩
        go_simp
        try with_reducible rfl
      try simp only [Act.put, List.setIfInBounds_toArray, List.set_cons_zero, List.set_cons_succ]
      obtain ⟨f0, f1, f2, f3, f4, f5, f6, f7, f8⟩ := row8_facts HSX
      refine Held2.Ways.one (i := 9) (by rfl) (by kernel_rfl) (fun K hK => ?_)
      go_simp
      refine hK.out _ _ (fun h => absurd h (by decide)) ?_
      clear hK K
      try simp only [Act.put, List.setIfInBounds_toArray, List.set_cons_zero, List.set_cons_succ]
      refine Held2.Ways.plain (i := 10) (oi := ?o12) ?v12 ?hi12 ?hs12 ?hf12 ?hr12 ?hQ12 ?hy12 ?rest12
      case hi12 => exact rfl
      case hs12 => kernel_rfl
      case hf12 => kernel_rfl
      case hr12 => kernel_rfl
      case hQ12 => exact fun _ _ _ h => h
      case hy12 =>
        refine .inl ⟨by rfl, fun W _ => ?_⟩
        go_simp
        try with_reducible rfl
      try simp only [Act.put, List.setIfInBounds_toArray, List.set_cons_zero, List.set_cons_succ]
      refine Held2.Ways.one (i := 11) (by rfl) (by kernel_rfl) (fun K hK => ?_)
      go_simp
      refine hK.out _ _ (fun h => absurd h (by decide)) ?_
      clear hK K
      try simp only [Act.put, List.setIfInBounds_toArray, List.set_cons_zero, List.set_cons_succ]
      refine Held2.Ways.done (by kernel_rfl) ?_ _
      clear f0 f1 f2 f3 f4 f5 f6 f7 f8 HSX
      obtain ⟨X4, hX4⟩ : ∃ V, V = ((DX4.setCell ⟨g5, 1, none⟩ (.slice (some ⟨gka, oka, none⟩) m cka)).setCell ⟨g5, 2, none⟩ (.slice (some ⟨gva, ova, none⟩) m cva)) := ⟨_, rfl⟩
      rw [← hX4]
      have HNX4 : Hid (∀ k, k ≠ g5 → X4.heap[k]? = DX4.heap[k]?) := fun k hk => by rw [hX4]; exact (Below.heap_setCell _ _ _ _ hk).trans (Below.heap_setCell _ _ _ _ hk)
      have HR5X4 : Hid (X4.heap[g5]? = some (.cells #[.int .i64 p.kind, .slice (some ⟨gka, oka, none⟩) m cka, .slice (some ⟨gva, ova, none⟩) m cva, .slice Ana p.kids.length cna, .int .i64 0, .int .i64 0, .int .i64 0, .int .i64 0] 26 (0, 0))) := by
        rw [hX4]
        have h9 := heap_setCell_same _ g5 2 _ _ (.slice (some ⟨gva, ova, none⟩) m cva) (heap_setCell_same DX4 g5 1 _ _ (.slice (some ⟨gka, oka, none⟩) m cka) HR5DX4.out)
        exact Lib.hid (by simpa using h9)
      have HR6X4 := Lib.hid ((HNX4.out g6 (Ne.symm HNE.out)).trans HR6DX4.out)
      have HAX4 := Lib.hid (HADX4.out.keep HR5DX4.out HNX4.out)
      have HBX4 := Lib.hid (HBDX4.out.keep HR5DX4.out HNX4.out)
      have HLX4 : Hid (Below W0.heap.size W0 X4) := by rw [hX4]; exact below_set (below_set HLDX4.out H5.out _) H5.out _
      clear hX4
      go_upto_region 5 with fail
      refine Held2.ways_start (fun W => W.heap[g6]? = some (.cells #[.int .i64 p.kind, .slice (some ⟨gkb, okb, none⟩) p.keys.length ckb, .slice (some ⟨gvb, ovb, none⟩) p.vals.length cvb, .slice Anb p.kids.length cnb, .int .i64 0, .int .i64 0, .int .i64 0, .int .i64 0] 26 (0, 0))) (fun k => decide (k ≠ 9 ∧ k ≠ 11)) (by kernel_rfl) ?_
      obtain ⟨DX5, hD⟩ : ∃ D, D = X4.drew := ⟨_, rfl⟩
      rw [← hD]
      have HR5DX5 : Hid (DX5.heap[g5]? = some (.cells #[.int .i64 p.kind, .slice (some ⟨gka, oka, none⟩) m cka, .slice (some ⟨gva, ova, none⟩) m cva, .slice Ana p.kids.length cna, .int .i64 0, .int .i64 0, .int .i64 0, .int .i64 0] 26 (0, 0))) := by rw [hD]; exact HR5X4.out
      have HR6DX5 : Hid (DX5.heap[g6]? = some (.cells #[.int .i64 p.kind, .slice (some ⟨gkb, okb, none⟩) p.keys.length ckb, .slice (some ⟨gvb, ovb, none⟩) p.vals.length cvb, .slice Anb p.kids.length cnb, .int .i64 0, .int .i64 0, .int .i64 0, .int .i64 0] 26 (0, 0))) := by rw [hD]; exact HR6X4.out
      have HADX5 : Hid (PgO DX5 W0.heap.size (.slice (some ⟨gka, oka, none⟩) p.keys.length cka) (.slice (some ⟨gva, ova, none⟩) p.vals.length cva) (.slice Ana p.kids.length cna) p) := by rw [hD]; exact HAX4.out.drew
      have HBDX5 : Hid (PgO DX5 W0.heap.size (.slice (some ⟨gkb, okb, none⟩) p.keys.length ckb) (.slice (some ⟨gvb, ovb, none⟩) p.vals.length cvb) (.slice Anb p.kids.length cnb) p) := by rw [hD]; exact HBX4.out.drew
      have HLDX5 : Hid (Below W0.heap.size W0 DX5) := by rw [hD]; exact HLX4.out.drew
      clear hD
      have HSX : DX5.heap[g6]? = some (.cells #[.int .i64 p.kind, .slice (some ⟨gkb, okb, none⟩) p.keys.length ckb, .slice (some ⟨gvb, ovb, none⟩) p.vals.length cvb, .slice Anb p.kids.length cnb, .int .i64 0, .int .i64 0, .int .i64 0, .int .i64 0] 26 (0, 0)) := HR6DX5.out
      refine Held2.Ways.plain (i := 0) (oi := ?o13) ?v13 ?hi13 ?hs13 ?hf13 ?hr13 ?hQ13 ?hy13 ?rest13
      case hi13 => exact rfl
      case hs13 => kernel_rfl
      case hf13 => kernel_rfl
      case hr13 => kernel_rfl
      case hQ13 => exact fun _ _ _ h => h
      case hy13 =>
        refine .inl ⟨by rfl, fun W _ => ?_⟩
        go_simp
        try with_reducible rfl
      try simp only [Act.put, List.setIfInBounds_toArray, List.set_cons_zero, List.set_cons_succ]
      refine Held2.Ways.take (i := 1) (oi := ?o14) ?v14 ?hi14 ?hs14 ?hf14 ?hlw14 ?hr14 ?hQ14 HSX ?hy14 ?rest14
      case hi14 => exact rfl
      case hs14 => kernel_rfl
      case hf14 => kernel_rfl
      case hlw14 => kernel_rfl
      case hr14 => kernel_rfl
      case hQ14 => exact fun _ _ _ h => h
      case hy14 =>
        refine .inl ⟨by rfl, fun W hW => ?_⟩
        obtain ⟨f0, f1, f2, f3, f4, f5, f6, f7, f8⟩ := row8_facts hW
        go_simp
        try with_reducible rfl
      try simp only [Act.put, List.setIfInBounds_toArray, List.set_cons_zero, List.set_cons_succ]
      refine Held2.Ways.plain (i := 2) (oi := ?o15) ?v15 ?hi15 ?hs15 ?hf15 ?hr15 ?hQ15 ?hy15 ?rest15
      case hi15 => exact rfl
      case hs15 => kernel_rfl
      case hf15 => kernel_rfl
      case hr15 => kernel_rfl
      case hQ15 => exact fun _ _ _ h => h
      case hy15 =>
        refine .inl ⟨by rfl, fun W _ => ?_⟩
        go_simp
        try with_reducible rfl
      try simp only [Act.put, List.setIfInBounds_toArray, List.set_cons_zero, List.set_cons_succ]
      refine Held2.Ways.plain (i := 3) (oi := ?o16) ?v16 ?hi16 ?hs16 ?hf16 ?hr16 ?hQ16 ?hy16 ?rest16
      case hi16 => exact rfl
      case hs16 => kernel_rfl
      case hf16 => kernel_rfl
      case hr16 => kernel_rfl
      case hQ16 => exact fun _ _ _ h => h
      case hy16 =>
        refine .inl ⟨by rfl, fun W _ => ?_⟩
        go_simp
        try with_reducible rfl
      try simp only [Act.put, List.setIfInBounds_toArray, List.set_cons_zero, List.set_cons_succ]
      refine Held2.Ways.plain (i := 4) (oi := ?o17) ?v17 ?hi17 ?hs17 ?hf17 ?hr17 ?hQ17 ?hy17 ?rest17
      case hi17 => exact rfl
      case hs17 => kernel_rfl
      case hf17 => kernel_rfl
      case hr17 => kernel_rfl
      case hQ17 => exact fun _ _ _ h => h
      case hy17 =>
        refine .inl ⟨by rfl, fun W _ => ?_⟩
        go_simp
        try with_reducible rfl
      try simp only [Act.put, List.setIfInBounds_toArray, List.set_cons_zero, List.set_cons_succ]
      refine Held2.Ways.take (i := 5) (oi := ?o18) ?v18 ?hi18 ?hs18 ?hf18 ?hlw18 ?hr18 ?hQ18 HSX ?hy18 ?rest18
      case hi18 => exact rfl
      case hs18 => kernel_rfl
      case hf18 => kernel_rfl
      case hlw18 => kernel_rfl
      case hr18 => kernel_rfl
      case hQ18 => exact fun _ _ _ h => h
      case hy18 =>
        refine .inl ⟨by rfl, fun W hW => ?_⟩
        obtain ⟨f0, f1, f2, f3, f4, f5, f6, f7, f8⟩ := row8_facts hW
        go_simp
        try with_reducible rfl
      try simp only [Act.put, List.setIfInBounds_toArray, List.set_cons_zero, List.set_cons_succ]
      refine Held2.Ways.plain (i := 6) (oi := ?o19) ?v19 ?hi19 ?hs19 ?hf19 ?hr19 ?hQ19 ?hy19 ?rest19
      case hi19 => exact rfl
      case hs19 => kernel_rfl
      case hf19 => kernel_rfl
      case hr19 => kernel_rfl
      case hQ19 => exact fun _ _ _ h => h
      case hy19 =>
        refine .inl ⟨by rfl, fun W _ => ?_⟩
        go_simp
        try with_reducible rfl
      try simp only [Act.put, List.setIfInBounds_toArray, List.set_cons_zero, List.set_cons_succ]
      refine Held2.Ways.plain (i := 7) (oi := ?o20) ?v20 ?hi20 ?hs20 ?hf20 ?hr20 ?hQ20 ?hy20 ?rest20
      case hi20 => exact rfl
      case hs20 => kernel_rfl
      case hf20 => kernel_rfl
      case hr20 => kernel_rfl
      case hQ20 => exact fun _ _ _ h => h
      case hy20 =>
        refine .inl ⟨by rfl, fun W _ => ?_⟩
        go_simp
        try with_reducible rfl
      try simp only [Act.put, List.setIfInBounds_toArray, List.set_cons_zero, List.set_cons_succ]
      refine Held2.Ways.plain (i := 8) (oi := ?o21) ?v21 ?hi21 ?hs21 ?hf21 ?hr21 ?hQ21 ?hy21 ?rest21
      case hi21 => exact rfl
      case hs21 => kernel_rfl
      case hf21 => kernel_rfl
      case hr21 => kernel_rfl
      case hQ21 => exact fun _ _ _ h => h
      case hy21 =>
        refine .inl ⟨by rfl, fun W _ => ?_⟩
        go_simp
        try with_reducible rfl
      try simp only [Act.put, List.setIfInBounds_toArray, List.set_cons_zero, List.set_cons_succ]
      obtain ⟨f0, f1, f2, f3, f4, f5, f6, f7, f8⟩ := row8_facts HSX
      refine Held2.Ways.one (i := 9) (by rfl) (by kernel_rfl) (fun K hK => ?_)
      go_simp
      refine hK.out _ _ (fun h => absurd h (by decide)) ?_
      clear hK K
      try simp only [Act.put, List.setIfInBounds_toArray, List.set_cons_zero, List.set_cons_succ]
      refine Held2.Ways.plain (i := 10) (oi := ?o22) ?v22 ?hi22 ?hs22 ?hf22 ?hr22 ?hQ22 ?hy22 ?rest22
      case hi22 => exact rfl
      case hs22 => kernel_rfl
      case hf22 => kernel_rfl
      case hr22 => kernel_rfl
      case hQ22 => exact fun _ _ _ h => h
      case hy22 =>
        refine .inl ⟨by rfl, fun W _ => ?_⟩
        go_simp
        try with_reducible rfl
      try simp only [Act.put, List.setIfInBounds_toArray, List.set_cons_zero, List.set_cons_succ]
      refine Held2.Ways.one (i := 11) (by rfl) (by kernel_rfl) (fun K hK => ?_)
      go_simp
      refine hK.out _ _ (fun h => absurd h (by decide)) ?_
      clear hK K
      try simp only [Act.put, List.setIfInBounds_toArray, List.set_cons_zero, List.set_cons_succ]
      refine Held2.Ways.done (by kernel_rfl) ?_ _
      clear f0 f1 f2 f3 f4 f5 f6 f7 f8 HSX
      obtain ⟨X5, hX5⟩ : ∃ V, V = ((DX5.setCell ⟨g6, 1, none⟩ (.slice (some ⟨gkb, okb + m, none⟩) (p.keys.length - m) (ckb - m))).setCell ⟨g6, 2, none⟩ (.slice (some ⟨gvb, ovb + m, none⟩) (p.vals.length - m) (cvb - m))) := ⟨_, rfl⟩
      rw [← hX5]
      have HNX5 : Hid (∀ k, k ≠ g6 → X5.heap[k]? = DX5.heap[k]?) := fun k hk => by rw [hX5]; exact (Below.heap_setCell _ _ _ _ hk).trans (Below.heap_setCell _ _ _ _ hk)
      have HR6X5 : Hid (X5.heap[g6]? = some (.cells #[.int .i64 p.kind, .slice (some ⟨gkb, okb + m, none⟩) (p.keys.length - m) (ckb - m), .slice (some ⟨gvb, ovb + m, none⟩) (p.vals.length - m) (cvb - m), .slice Anb p.kids.length cnb, .int .i64 0, .int .i64 0, .int .i64 0, .int .i64 0] 26 (0, 0))) := by
        rw [hX5]
        have h9 := heap_setCell_same _ g6 2 _ _ (.slice (some ⟨gvb, ovb + m, none⟩) (p.vals.length - m) (cvb - m)) (heap_setCell_same DX5 g6 1 _ _ (.slice (some ⟨gkb, okb + m, none⟩) (p.keys.length - m) (ckb - m)) HR6DX5.out)
        exact Lib.hid (by simpa using h9)
      have HR5X5 := Lib.hid ((HNX5.out g5 HNE.out).trans HR5DX5.out)
      have HAX5 := Lib.hid (HADX5.out.keep HR6DX5.out HNX5.out)
      have HBX5 := Lib.hid (HBDX5.out.keep HR6DX5.out HNX5.out)
      have HLX5 : Hid (Below W0.heap.size W0 X5) := by rw [hX5]; exact below_set (below_set HLDX5.out H6.out _) H6.out _
      clear hX5
      obtain ⟨km, hkm⟩ : ∃ km, p.keys[m]? = some km := ⟨p.keys[m], List.getElem?_eq_getElem _⟩
      have HKQ := Lib.hid hkm
      have HKM : Hid (X5.cell? ⟨gkb, okb + m, none⟩ = some (.string km)) := by
        obtain ⟨g', o', c', e, _, _, _, hx⟩ := HBX5.out.keys.rd.cells (by omega)
        injection e with e1 _ _
        injection e1 with e1
        injection e1 with e1 e2
        subst e1 e2
        exact hx m _ (sc_at HKQ.out)
      clear hkm
      go_upto_region 6 with fail
      refine Held2.ways_start (fun W : World => W.heap[g5]? = some (.cells #[.int .i64 p.kind, .slice (some ⟨gka, oka, none⟩) m cka, .slice (some ⟨gva, ova, none⟩) m cva, .slice Ana p.kids.length cna, .int .i64 0, .int .i64 0, .int .i64 0, .int .i64 0] 26 (0, 0)) ∧ W.heap[g6]? = some (.cells #[.int .i64 p.kind, .slice (some ⟨gkb, okb + m, none⟩) (p.keys.length - m) (ckb - m), .slice (some ⟨gvb, ovb + m, none⟩) (p.vals.length - m) (cvb - m), .slice Anb p.kids.length cnb, .int .i64 0, .int .i64 0, .int .i64 0, .int .i64 0] 26 (0, 0)) ∧ W.cell? ⟨gkb, okb + m, none⟩ = some (.string km)) (fun _ => true) (by kernel_rfl) ?_
      have HSS : Hid (∀ W : World, (∀ k, W0.heap.size ≤ k → W.heap[k]? = X5.heap[k]?) → (fun W : World => W.heap[g5]? = some (.cells #[.int .i64 p.kind, .slice (some ⟨gka, oka, none⟩) m cka, .slice (some ⟨gva, ova, none⟩) m cva, .slice Ana p.kids.length cna, .int .i64 0, .int .i64 0, .int .i64 0, .int .i64 0] 26 (0, 0)) ∧ W.heap[g6]? = some (.cells #[.int .i64 p.kind, .slice (some ⟨gkb, okb + m, none⟩) (p.keys.length - m) (ckb - m), .slice (some ⟨gvb, ovb + m, none⟩) (p.vals.length - m) (cvb - m), .slice Anb p.kids.length cnb, .int .i64 0, .int .i64 0, .int .i64 0, .int .i64 0] 26 (0, 0)) ∧ W.cell? ⟨gkb, okb + m, none⟩ = some (.string km)) W) := Lib.hid (by
        intro W hk
        refine ⟨(hk g5 H5.out).trans HR5X5.out, (hk g6 H6.out).trans HR6X5.out, ?_⟩
        exact (World.cell?_of_block (a := ⟨gkb, okb + m, none⟩) (hk gkb HGB.out)).trans HKM.out)
      obtain ⟨DF, hD⟩ : ∃ D, D = X5.drew := ⟨_, rfl⟩
      rw [← hD]
      have HD : Hid (∀ k : Nat, DF.heap[k]? = X5.heap[k]?) := fun k => by rw [hD]; rfl
      have HLDF : Hid (Below W0.heap.size W0 DF) := by rw [hD]; exact HLX5.out.drew
      clear hD
      have HSX := HSS.out DF (fun k _ => HD.out k)
      have HZ2 : Hid (DF.heap[w.heap.size + 1]? = some (.cells #[.int .i64 0, .slice none 0 0, .slice none 0 0, .slice none 0 0, .int .i64 0, .int .i64 0, .int .i64 0, .int .i64 0] 26 (0, 0))) := (HLDF.out.block _ (by rw [HSz.out]; omega)).trans HR2.out
      have HZ4 : Hid (∀ W : World, (∀ k, k ≠ w.heap.size + 1 → W.heap[k]? = DF.heap[k]?) → W.heap[w.heap.size + 1 + 1]? = some (.cells #[.int .i64 0, .slice none 0 0, .slice none 0 0, .slice none 0 0, .int .i64 0, .int .i64 0, .int .i64 0, .int .i64 0] 26 (0, 0))) := fun W hk => (hk _ (by omega)).trans ((HLDF.out.block _ (by rw [HSz.out]; omega)).trans HR4.out)
      refine Held2.Ways.take (i := 0) (oi := ?o23) ?v23 ?hi23 ?hs23 ?hf23 ?hlw23 ?hr23 ?hQ23 HSX ?hy23 ?rest23
      case hi23 => exact rfl
      case hs23 => kernel_rfl
      case hf23 => kernel_rfl
      case hlw23 => kernel_rfl
      case hr23 => kernel_rfl
      case hQ23 => exact fun _ _ _ h => h
      case hy23 =>
        refine .inl ⟨by rfl, fun W hW => ?_⟩
        obtain ⟨hW1, hW2, hW3⟩ := hW
        obtain ⟨f0, f1, f2, f3, f4, f5, f6, f7, f8⟩ := row8_facts hW1
        obtain ⟨z0, z1, z2, z3, z4, z5, z6, z7, z8⟩ := row8_facts hW2
        go_simp
        try with_reducible rfl
      try simp only [Act.put, List.setIfInBounds_toArray, List.set_cons_zero, List.set_cons_succ]
      refine Held2.Ways.plain (i := 1) (oi := ?o24) ?v24 ?hi24 ?hs24 ?hf24 ?hr24 ?hQ24 ?hy24 ?rest24
      case hi24 => exact rfl
      case hs24 => kernel_rfl
      case hf24 => kernel_rfl
      case hr24 => kernel_rfl
      case hQ24 => exact fun _ _ _ h => h
      case hy24 =>
        refine .inl ⟨by rfl, fun W _ => ?_⟩
        go_simp
        try with_reducible rfl
      try simp only [Act.put, List.setIfInBounds_toArray, List.set_cons_zero, List.set_cons_succ]
      refine Held2.Ways.take (i := 2) (oi := ?o25) ?v25 ?hi25 ?hs25 ?hf25 ?hlw25 ?hr25 ?hQ25 HSX ?hy25 ?rest25
      case hi25 => exact rfl
      case hs25 => kernel_rfl
      case hf25 => kernel_rfl
      case hlw25 => kernel_rfl
      case hr25 => kernel_rfl
      case hQ25 => exact fun _ _ _ h => h
      case hy25 =>
        refine .inl ⟨by rfl, fun W hW => ?_⟩
        obtain ⟨hW1, hW2, hW3⟩ := hW
        obtain ⟨f0, f1, f2, f3, f4, f5, f6, f7, f8⟩ := row8_facts hW1
        obtain ⟨z0, z1, z2, z3, z4, z5, z6, z7, z8⟩ := row8_facts hW2
        go_simp
        try with_reducible rfl
      try simp only [Act.put, List.setIfInBounds_toArray, List.set_cons_zero, List.set_cons_succ]
      refine Held2.Ways.plain (i := 3) (oi := ?o26) ?v26 ?hi26 ?hs26 ?hf26 ?hr26 ?hQ26 ?hy26 ?rest26
      case hi26 => exact rfl
      case hs26 => kernel_rfl
      case hf26 => kernel_rfl
      case hr26 => kernel_rfl
      case hQ26 => exact fun _ _ _ h => h
      case hy26 =>
        refine .inl ⟨by rfl, fun W _ => ?_⟩
        go_simp
        try with_reducible rfl
      try simp only [Act.put, List.setIfInBounds_toArray, List.set_cons_zero, List.set_cons_succ]
      refine Held2.Ways.take (i := 4) (oi := ?o27) ?v27 ?hi27 ?hs27 ?hf27 ?hlw27 ?hr27 ?hQ27 HSX ?hy27 ?rest27
      case hi27 => exact rfl
      case hs27 => kernel_rfl
      case hf27 => kernel_rfl
      case hlw27 => kernel_rfl
      case hr27 => kernel_rfl
      case hQ27 => exact fun _ _ _ h => h
      case hy27 =>
        refine .inl ⟨by rfl, fun W hW => ?_⟩
        obtain ⟨hW1, hW2, hW3⟩ := hW
        obtain ⟨f0, f1, f2, f3, f4, f5, f6, f7, f8⟩ := row8_facts hW1
        obtain ⟨z0, z1, z2, z3, z4, z5, z6, z7, z8⟩ := row8_facts hW2
        go_simp
        try with_reducible rfl
      try simp only [Act.put, List.setIfInBounds_toArray, List.set_cons_zero, List.set_cons_succ]
      refine Held2.Ways.take (i := 5) (oi := ?o28) ?v28 ?hi28 ?hs28 ?hf28 ?hlw28 ?hr28 ?hQ28 HSX ?hy28 ?rest28
      case hi28 => exact rfl
      case hs28 => kernel_rfl
      case hf28 => kernel_rfl
      case hlw28 => kernel_rfl
      case hr28 => kernel_rfl
      case hQ28 => exact fun _ _ _ h => h
      case hy28 =>
        refine .inl ⟨by rfl, fun W hW => ?_⟩
        obtain ⟨hW1, hW2, hW3⟩ := hW
        obtain ⟨f0, f1, f2, f3, f4, f5, f6, f7, f8⟩ := row8_facts hW1
        obtain ⟨z0, z1, z2, z3, z4, z5, z6, z7, z8⟩ := row8_facts hW2
        go_simp
        try with_reducible rfl
      try simp only [Act.put, List.setIfInBounds_toArray, List.set_cons_zero, List.set_cons_succ]
      clear HSX
      obtain ⟨f0, f1, f2, f3, f4, f5, f6, f7, f8⟩ := row8_facts HZ2.out
      refine Held2.Ways.one (i := 6) (by rfl) (by kernel_rfl) (fun K hK => ?_)
      go_simp
      refine hK.out _ _ (fun _ _ => HSS.out _ (fun k hk => (set8_ne _ (by have := HSz.out; omega) _ _ _ _ _ _ _ _).trans (HD.out k))) ?_
      clear hK K
      try simp only [Act.put, List.setIfInBounds_toArray, List.set_cons_zero, List.set_cons_succ]
      obtain ⟨Y1, hY1⟩ : ∃ V, V = ((((((((DF.setCell ⟨(w.heap.size + 1), 0, none⟩ (.int .i64 p.kind)).setCell ⟨(w.heap.size + 1), 1, none⟩ (.slice (some ⟨gka, oka, none⟩) m cka)).setCell ⟨(w.heap.size + 1), 2, none⟩ (.slice (some ⟨gva, ova, none⟩) m cva)).setCell ⟨(w.heap.size + 1), 3, none⟩ (.slice Ana p.kids.length cna)).setCell ⟨(w.heap.size + 1), 4, none⟩ (.int .i64 0)).setCell ⟨(w.heap.size + 1), 5, none⟩ (.int .i64 0)).setCell ⟨(w.heap.size + 1), 6, none⟩ (.int .i64 0)).setCell ⟨(w.heap.size + 1), 7, none⟩ (.int .i64 0)) := ⟨_, rfl⟩
      rw [← hY1]
      clear f0 f1 f2 f3 f4 f5 f6 f7 f8
      have HN1 : Hid (∀ k, k ≠ w.heap.size + 1 → Y1.heap[k]? = DF.heap[k]?) := fun k hk => by rw [hY1]; exact set8_ne _ hk _ _ _ _ _ _ _ _
      have HQ2 : Hid (Y1.heap[w.heap.size + 1]? = some (.cells #[.int .i64 p.kind, .slice (some ⟨gka, oka, none⟩) m cka, .slice (some ⟨gva, ova, none⟩) m cva, .slice Ana p.kids.length cna, .int .i64 0, .int .i64 0, .int .i64 0, .int .i64 0] 26 (0, 0))) := by rw [hY1]; exact row8_set HZ2.out _ _ _ _ _ _ _ _
      have HLY : Hid (Below w.heap.size w Y1) := by rw [hY1]; exact set8_below (HBw.out.trans (HLDF.out.mono HSw.out)) (Nat.le_succ _) _ _ _ _ _ _ _ _
      clear hY1
      have HSY := HSS.out Y1 (fun k hk => (HN1.out k (by have := HSz.out; omega)).trans (HD.out k))
      obtain ⟨f0, f1, f2, f3, f4, f5, f6, f7, f8⟩ := row8_facts (HZ4.out Y1 HN1.out)
      refine Held2.Ways.plain (i := 7) (oi := ?o29) ?v29 ?hi29 ?hs29 ?hf29 ?hr29 ?hQ29 ?hy29 ?rest29
      case hi29 => exact rfl
      case hs29 => kernel_rfl
      case hf29 => kernel_rfl
      case hr29 => kernel_rfl
      case hQ29 => exact fun _ _ _ h => h
      case hy29 =>
        refine .inl ⟨by rfl, fun W _ => ?_⟩
        go_simp
        try with_reducible rfl
      try simp only [Act.put, List.setIfInBounds_toArray, List.set_cons_zero, List.set_cons_succ]
      refine Held2.Ways.one (i := 8) (by rfl) (by kernel_rfl) (fun K hK => ?_)
      go_simp
      refine hK.out _ _ (fun _ _ => HSS.out _ (fun k hk => (set8_ne _ (by have := HSz.out; omega) _ _ _ _ _ _ _ _).trans ((HN1.out k (by have := HSz.out; omega)).trans (HD.out k)))) ?_
      clear hK K
      try simp only [Act.put, List.setIfInBounds_toArray, List.set_cons_zero, List.set_cons_succ]
      refine Held2.Ways.done (by kernel_rfl) ?_ _
      go_wp2_with fail
      clear f0 f1 f2 f3 f4 f5 f6 f7 f8
      have HFW : Hid (∀ k, W0.heap.size ≤ k → (((((((((Y1.setCell ⟨(w.heap.size + 1 + 1), 0, none⟩ (.int .i64 p.kind)).setCell ⟨(w.heap.size + 1 + 1), 1, none⟩ (.slice (some ⟨gkb, okb + m, none⟩) (p.keys.length - m) (ckb - m))).setCell ⟨(w.heap.size + 1 + 1), 2, none⟩ (.slice (some ⟨gvb, ovb + m, none⟩) (p.vals.length - m) (cvb - m))).setCell ⟨(w.heap.size + 1 + 1), 3, none⟩ (.slice Anb p.kids.length cnb)).setCell ⟨(w.heap.size + 1 + 1), 4, none⟩ (.int .i64 0)).setCell ⟨(w.heap.size + 1 + 1), 5, none⟩ (.int .i64 0)).setCell ⟨(w.heap.size + 1 + 1), 6, none⟩ (.int .i64 0)).setCell ⟨(w.heap.size + 1 + 1), 7, none⟩ (.int .i64 0))).heap[k]? = X5.heap[k]?) := fun k hk => (set8_ne _ (by have := HSz.out; omega) _ _ _ _ _ _ _ _).trans ((HN1.out k (by have := HSz.out; omega)).trans (HD.out k))
      refine bodyPost_ret (results_row_tmp_row rfl _ _ (g := w.heap.size + 1) (g2 := w.heap.size + 1 + 1) ((set8_ne _ (by omega) _ _ _ _ _ _ _ _).trans HQ2.out) rfl (row8_set (HZ4.out Y1 HN1.out) _ _ _ _ _ _ _ _) rfl Try.underlying26 rfl rfl rfl) rfl ?_
      have hA := (HAX5.out.kept HFW.out).rd
      have hB := (HBX5.out.kept HFW.out).rd
      have hL := set8_below HLY.out (show w.heap.size ≤ w.heap.size + 1 + 1 by omega) (.int .i64 p.kind) (.slice (some ⟨gkb, okb + m, none⟩) (p.keys.length - m) (ckb - m)) (.slice (some ⟨gvb, ovb + m, none⟩) (p.vals.length - m) (cvb - m)) (.slice Anb p.kids.length cnb) (.int .i64 0) (.int .i64 0) (.int .i64 0) (.int .i64 0)
      obtain ⟨l1, l2, l3⟩ := HLENS.out
      have hmid : midS p = km := by unfold midS cutAt; rw [if_pos HK1.out, if_pos HK1.out, ← HM.out, List.getD_eq_getElem?_getD, HKQ.out]; rfl
      have hleft : leftP p = ⟨p.kind, p.keys.take m, p.vals.take m, p.kids⟩ := by unfold leftP cutAt; rw [if_pos HK1.out, if_pos HK1.out, ← HM.out]
      have hright : rightP p = ⟨p.kind, p.keys.drop m, p.vals.drop m, p.kids⟩ := by unfold rightP cutAt; rw [if_pos HK1.out, if_pos HK1.out, ← HM.out]
      have hv3 := HK3.out
      refine ⟨_, _, _, _, _, _, by rw [hmid]; rfl, ?_, ?_, hL⟩
      · rw [hleft]
        exact ⟨rd_take_s hA.keys n3, rd_take_s hA.vals n4, hA.kids, by simp; omega, by simp; omega, l3⟩
      · rw [hright]
        exact ⟨rd_drop_s hB.keys m2, rd_drop_s hB.vals (by omega), hB.kids, by simp; omega, by simp; omega, l3⟩
    · have kb1 : (p.kind == 1) = false := by simp [hk]
      obtain ⟨m, hm⟩ : ∃ m, m = p.kids.length / 2 := ⟨_, rfl⟩
      obtain ⟨q, hq⟩ : ∃ q, m = q + 1 := ⟨m - 1, by omega⟩
      have ew : wrap64 ((p.kids.length : Int) / 2) = (m : Int) := by
        unfold wrap64; have := HLENS.out; omega
      have ew2 : wrap64 ((m : Int) - 1) = (q : Int) := by
        unfold wrap64; have := HLENS.out; omega
      have ew3 : IntKind.i64.wrap ((m : Int) - 1) = (q : Int) := by
        rw [IntKind.wrap_i64]; have := HLENS.out; omega
      have m0 : (0 : Int) ≤ (m : Int) := by omega
      have q0 : (0 : Int) ≤ (q : Int) := by omega
      have m1 : 1 ≤ m := by omega
      have m2 : m < p.keys.length := by omega
      have q2 : (q : Int) < (p.keys.length : Int) := by omega
      have hp := (HP.out wc (HBw.out.trans (HLwc.out.mono HSw.out))).keys
      obtain ⟨gk, ok, _, e, _, _, _, hx⟩ := hp.cells (by omega)
      injection e with e1 e2 e3
      clear e2 e3
      subst e1
      obtain ⟨km, hkm⟩ : ∃ km, p.keys[q]? = some km := ⟨p.keys[q], List.getElem?_eq_getElem _⟩
      have hck := hx q _ (sc_at hkm)
      have HKQ := Lib.hid hkm
      clear hkm hx hp
      obtain ⟨gka, oka, rfl, c1, _, _⟩ := own_some HAwc.out.keys (by omega)
      obtain ⟨gna, ona, rfl, c2, _, _⟩ := own_some HAwc.out.kids (by omega)
      obtain ⟨gkb, okb, rfl, c3, _, _⟩ := own_some HBwc.out.keys (by omega)
      obtain ⟨gnb, onb, rfl, c4, _, _⟩ := own_some HBwc.out.kids (by omega)
      have n1 : q ≤ cka := by omega
      have n2 : m ≤ cna := by omega
      have n3 : m ≤ p.keys.length := by omega
      have n4 : m ≤ p.kids.length := by omega
      have n5 : ¬ (ckb = m) := by omega
      have n6 : ¬ (cnb = m) := by omega
      have HK1 := Lib.hid hk
      have HK2 := Lib.hid hk2
      have HK3 := Lib.hid hk3
      have HM := Lib.hid hm
      have HQ := Lib.hid hq
      clear hk hk2 hk3 hm hq
      go_upto_region 9 with fail
      refine Held2.ways_start (fun W => W.heap[g5]? = some (.cells #[.int .i64 p.kind, .slice (some ⟨gka, oka, none⟩) p.keys.length cka, .slice Ava p.vals.length cva, .slice (some ⟨gna, ona, none⟩) p.kids.length cna, .int .i64 0, .int .i64 0, .int .i64 0, .int .i64 0] 26 (0, 0))) (fun k => decide (k ≠ 10 ∧ k ≠ 12)) (by kernel_rfl) ?_
      obtain ⟨DX4, hD⟩ : ∃ D, D = wc.drew := ⟨_, rfl⟩
      rw [← hD]
      have HR5DX4 : Hid (DX4.heap[g5]? = some (.cells #[.int .i64 p.kind, .slice (some ⟨gka, oka, none⟩) p.keys.length cka, .slice Ava p.vals.length cva, .slice (some ⟨gna, ona, none⟩) p.kids.length cna, .int .i64 0, .int .i64 0, .int .i64 0, .int .i64 0] 26 (0, 0))) := by rw [hD]; exact HR5wc.out
      have HR6DX4 : Hid (DX4.heap[g6]? = some (.cells #[.int .i64 p.kind, .slice (some ⟨gkb, okb, none⟩) p.keys.length ckb, .slice Avb p.vals.length cvb, .slice (some ⟨gnb, onb, none⟩) p.kids.length cnb, .int .i64 0, .int .i64 0, .int .i64 0, .int .i64 0] 26 (0, 0))) := by rw [hD]; exact HR6wc.out
      have HADX4 : Hid (PgO DX4 W0.heap.size (.slice (some ⟨gka, oka, none⟩) p.keys.length cka) (.slice Ava p.vals.length cva) (.slice (some ⟨gna, ona, none⟩) p.kids.length cna) p) := by rw [hD]; exact HAwc.out.drew
      have HBDX4 : Hid (PgO DX4 W0.heap.size (.slice (some ⟨gkb, okb, none⟩) p.keys.length ckb) (.slice Avb p.vals.length cvb) (.slice (some ⟨gnb, onb, none⟩) p.kids.length cnb) p) := by rw [hD]; exact HBwc.out.drew
      have HLDX4 : Hid (Below W0.heap.size W0 DX4) := by rw [hD]; exact HLwc.out.drew
      clear hD
      have HSX : DX4.heap[g5]? = some (.cells #[.int .i64 p.kind, .slice (some ⟨gka, oka, none⟩) p.keys.length cka, .slice Ava p.vals.length cva, .slice (some ⟨gna, ona, none⟩) p.kids.length cna, .int .i64 0, .int .i64 0, .int .i64 0, .int .i64 0] 26 (0, 0)) := HR5DX4.out
      clear f0 f1 f2 f3 f4 f5 f6 f7 f8
      refine Held2.Ways.plain (i := 0) (oi := ?o30) ?v30 ?hi30 ?hs30 ?hf30 ?hr30 ?hQ30 ?hy30 ?rest30
      case hi30 => exact rfl
      case hs30 => kernel_rfl
      case hf30 => kernel_rfl
      case hr30 => kernel_rfl
      case hQ30 => exact fun _ _ _ h => h
      case hy30 =>
        refine .inl ⟨by rfl, fun W _ => ?_⟩
        go_simp
        try with_reducible rfl
      try simp only [Act.put, List.setIfInBounds_toArray, List.set_cons_zero, List.set_cons_succ]
      refine Held2.Ways.take (i := 1) (oi := ?o31) ?v31 ?hi31 ?hs31 ?hf31 ?hlw31 ?hr31 ?hQ31 HSX ?hy31 ?rest31
      case hi31 => exact rfl
      case hs31 => kernel_rfl
      case hf31 => kernel_rfl
      case hlw31 => kernel_rfl
      case hr31 => kernel_rfl
      case hQ31 => exact fun _ _ _ h => h
      case hy31 =>
        refine .inl ⟨by rfl, fun W hW => ?_⟩
        obtain ⟨f0, f1, f2, f3, f4, f5, f6, f7, f8⟩ := row8_facts hW
        go_simp
        try with_reducible rfl
      try simp only [Act.put, List.setIfInBounds_toArray, List.set_cons_zero, List.set_cons_succ]
      refine Held2.Ways.plain (i := 2) (oi := ?o32) ?v32 ?hi32 ?hs32 ?hf32 ?hr32 ?hQ32 ?hy32 ?rest32
      case hi32 => exact rfl
      case hs32 => kernel_rfl
      case hf32 => kernel_rfl
      case hr32 => kernel_rfl
      case hQ32 => exact fun _ _ _ h => h
      case hy32 =>
        refine .inl ⟨by rfl, fun W _ => ?_⟩
        go_simp
        try with_reducible rfl
      try simp only [Act.put, List.setIfInBounds_toArray, List.set_cons_zero, List.set_cons_succ]
      refine Held2.Ways.plain (i := 3) (oi := ?o33) ?v33 ?hi33 ?hs33 ?hf33 ?hr33 ?hQ33 ?hy33 ?rest33
      case hi33 => exact rfl
      case hs33 => kernel_rfl
      case hf33 => kernel_rfl
      case hr33 => kernel_rfl
      case hQ33 => exact fun _ _ _ h => h
      case hy33 =>
        refine .inl ⟨by rfl, fun W _ => ?_⟩
        go_simp
        try with_reducible rfl
      try simp only [Act.put, List.setIfInBounds_toArray, List.set_cons_zero, List.set_cons_succ]
      refine Held2.Ways.plain (i := 4) (oi := ?o34) ?v34 ?hi34 ?hs34 ?hf34 ?hr34 ?hQ34 ?hy34 ?rest34
      case hi34 => exact rfl
      case hs34 => kernel_rfl
      case hf34 => kernel_rfl
      case hr34 => kernel_rfl
      case hQ34 => exact fun _ _ _ h => h
      case hy34 =>
        refine .inl ⟨by rfl, fun W _ => ?_⟩
        go_simp
        try with_reducible rfl
      try simp only [Act.put, List.setIfInBounds_toArray, List.set_cons_zero, List.set_cons_succ]
      refine Held2.Ways.plain (i := 5) (oi := ?o35) ?v35 ?hi35 ?hs35 ?hf35 ?hr35 ?hQ35 ?hy35 ?rest35
      case hi35 => exact rfl
      case hs35 => kernel_rfl
      case hf35 => kernel_rfl
      case hr35 => kernel_rfl
      case hQ35 => exact fun _ _ _ h => h
      case hy35 =>
        refine .inl ⟨by rfl, fun W _ => ?_⟩
        go_simp
        try with_reducible rfl
      try simp only [Act.put, List.setIfInBounds_toArray, List.set_cons_zero, List.set_cons_succ]
      refine Held2.Ways.take (i := 6) (oi := ?o36) ?v36 ?hi36 ?hs36 ?hf36 ?hlw36 ?hr36 ?hQ36 HSX ?hy36 ?rest36
      case hi36 => exact rfl
      case hs36 => kernel_rfl
      case hf36 => kernel_rfl
      case hlw36 => kernel_rfl
      case hr36 => kernel_rfl
      case hQ36 => exact fun _ _ _ h => h
      case hy36 =>
        refine .inl ⟨by rfl, fun W hW => ?_⟩
        obtain ⟨f0, f1, f2, f3, f4, f5, f6, f7, f8⟩ := row8_facts hW
        go_simp
        try with_reducible rfl
      try simp only [Act.put, List.setIfInBounds_toArray, List.set_cons_zero, List.set_cons_succ]
      refine Held2.Ways.plain (i := 7) (oi := ?o37) ?v37 ?hi37 ?hs37 ?hf37 ?hr37 ?hQ37 ?hy37 ?rest37
      case hi37 => exact rfl
      case hs37 => kernel_rfl
      case hf37 => kernel_rfl
      case hr37 => kernel_rfl
      case hQ37 => exact fun _ _ _ h => h
      case hy37 =>
        refine .inl ⟨by rfl, fun W _ => ?_⟩
        go_simp
        try with_reducible rfl
      try simp only [Act.put, List.setIfInBounds_toArray, List.set_cons_zero, List.set_cons_succ]
      refine Held2.Ways.plain (i := 8) (oi := ?o38) ?v38 ?hi38 ?hs38 ?hf38 ?hr38 ?hQ38 ?hy38 ?rest38
      case hi38 => exact rfl
      case hs38 => kernel_rfl
      case hf38 => kernel_rfl
      case hr38 => kernel_rfl
      case hQ38 => exact fun _ _ _ h => h
      case hy38 =>
        refine .inl ⟨by rfl, fun W _ => ?_⟩
        go_simp
        try with_reducible rfl
      try simp only [Act.put, List.setIfInBounds_toArray, List.set_cons_zero, List.set_cons_succ]
      refine Held2.Ways.plain (i := 9) (oi := ?o39) ?v39 ?hi39 ?hs39 ?hf39 ?hr39 ?hQ39 ?hy39 ?rest39
      case hi39 => exact rfl
      case hs39 => kernel_rfl
      case hf39 => kernel_rfl
      case hr39 => kernel_rfl
      case hQ39 => exact fun _ _ _ h => h
      case hy39 =>
        refine .inl ⟨by rfl, fun W _ => ?_⟩
        go_simp
        try with_reducible rfl
      try simp only [Act.put, List.setIfInBounds_toArray, List.set_cons_zero, List.set_cons_succ]
      obtain ⟨f0, f1, f2, f3, f4, f5, f6, f7, f8⟩ := row8_facts HSX
      refine Held2.Ways.one (i := 10) (by rfl) (by kernel_rfl) (fun K hK => ?_)
      go_simp
      refine hK.out _ _ (fun h => absurd h (by decide)) ?_
      clear hK K
      try simp only [Act.put, List.setIfInBounds_toArray, List.set_cons_zero, List.set_cons_succ]
      refine Held2.Ways.plain (i := 11) (oi := ?o40) ?v40 ?hi40 ?hs40 ?hf40 ?hr40 ?hQ40 ?hy40 ?rest40
      case hi40 => exact rfl
      case hs40 => kernel_rfl
      case hf40 => kernel_rfl
      case hr40 => kernel_rfl
      case hQ40 => exact fun _ _ _ h => h
      case hy40 =>
        refine .inl ⟨by rfl, fun W _ => ?_⟩
        go_simp
        try with_reducible rfl
      try simp only [Act.put, List.setIfInBounds_toArray, List.set_cons_zero, List.set_cons_succ]
      refine Held2.Ways.one (i := 12) (by rfl) (by kernel_rfl) (fun K hK => ?_)
      go_simp
      refine hK.out _ _ (fun h => absurd h (by decide)) ?_
      clear hK K
      try simp only [Act.put, List.setIfInBounds_toArray, List.set_cons_zero, List.set_cons_succ]
      refine Held2.Ways.done (by kernel_rfl) ?_ _
      clear f0 f1 f2 f3 f4 f5 f6 f7 f8 HSX
      obtain ⟨X4, hX4⟩ : ∃ V, V = ((DX4.setCell ⟨g5, 1, none⟩ (.slice (some ⟨gka, oka, none⟩) q cka)).setCell ⟨g5, 3, none⟩ (.slice (some ⟨gna, ona, none⟩) m cna)) := ⟨_, rfl⟩
      rw [← hX4]
      have HNX4 : Hid (∀ k, k ≠ g5 → X4.heap[k]? = DX4.heap[k]?) := fun k hk => by rw [hX4]; exact (Below.heap_setCell _ _ _ _ hk).trans (Below.heap_setCell _ _ _ _ hk)
      have HR5X4 : Hid (X4.heap[g5]? = some (.cells #[.int .i64 p.kind, .slice (some ⟨gka, oka, none⟩) q cka, .slice Ava p.vals.length cva, .slice (some ⟨gna, ona, none⟩) m cna, .int .i64 0, .int .i64 0, .int .i64 0, .int .i64 0] 26 (0, 0))) := by
        rw [hX4]
        have h9 := heap_setCell_same _ g5 3 _ _ (.slice (some ⟨gna, ona, none⟩) m cna) (heap_setCell_same DX4 g5 1 _ _ (.slice (some ⟨gka, oka, none⟩) q cka) HR5DX4.out)
        exact Lib.hid (by simpa using h9)
      have HR6X4 := Lib.hid ((HNX4.out g6 (Ne.symm HNE.out)).trans HR6DX4.out)
      have HAX4 := Lib.hid (HADX4.out.keep HR5DX4.out HNX4.out)
      have HBX4 := Lib.hid (HBDX4.out.keep HR5DX4.out HNX4.out)
      have HLX4 : Hid (Below W0.heap.size W0 X4) := by rw [hX4]; exact below_set (below_set HLDX4.out H5.out _) H5.out _
      clear hX4
      go_upto_region 10 with fail
      refine Held2.ways_start (fun W => W.heap[g6]? = some (.cells #[.int .i64 p.kind, .slice (some ⟨gkb, okb, none⟩) p.keys.length ckb, .slice Avb p.vals.length cvb, .slice (some ⟨gnb, onb, none⟩) p.kids.length cnb, .int .i64 0, .int .i64 0, .int .i64 0, .int .i64 0] 26 (0, 0))) (fun k => decide (k ≠ 9 ∧ k ≠ 11)) (by kernel_rfl) ?_
      obtain ⟨DX5, hD⟩ : ∃ D, D = X4.drew := ⟨_, rfl⟩
      rw [← hD]
      have HR5DX5 : Hid (DX5.heap[g5]? = some (.cells #[.int .i64 p.kind, .slice (some ⟨gka, oka, none⟩) q cka, .slice Ava p.vals.length cva, .slice (some ⟨gna, ona, none⟩) m cna, .int .i64 0, .int .i64 0, .int .i64 0, .int .i64 0] 26 (0, 0))) := by rw [hD]; exact HR5X4.out
      have HR6DX5 : Hid (DX5.heap[g6]? = some (.cells #[.int .i64 p.kind, .slice (some ⟨gkb, okb, none⟩) p.keys.length ckb, .slice Avb p.vals.length cvb, .slice (some ⟨gnb, onb, none⟩) p.kids.length cnb, .int .i64 0, .int .i64 0, .int .i64 0, .int .i64 0] 26 (0, 0))) := by rw [hD]; exact HR6X4.out
      have HADX5 : Hid (PgO DX5 W0.heap.size (.slice (some ⟨gka, oka, none⟩) p.keys.length cka) (.slice Ava p.vals.length cva) (.slice (some ⟨gna, ona, none⟩) p.kids.length cna) p) := by rw [hD]; exact HAX4.out.drew
      have HBDX5 : Hid (PgO DX5 W0.heap.size (.slice (some ⟨gkb, okb, none⟩) p.keys.length ckb) (.slice Avb p.vals.length cvb) (.slice (some ⟨gnb, onb, none⟩) p.kids.length cnb) p) := by rw [hD]; exact HBX4.out.drew
      have HLDX5 : Hid (Below W0.heap.size W0 DX5) := by rw [hD]; exact HLX4.out.drew
      clear hD
      have HSX : DX5.heap[g6]? = some (.cells #[.int .i64 p.kind, .slice (some ⟨gkb, okb, none⟩) p.keys.length ckb, .slice Avb p.vals.length cvb, .slice (some ⟨gnb, onb, none⟩) p.kids.length cnb, .int .i64 0, .int .i64 0, .int .i64 0, .int .i64 0] 26 (0, 0)) := HR6DX5.out
      refine Held2.Ways.plain (i := 0) (oi := ?o41) ?v41 ?hi41 ?hs41 ?hf41 ?hr41 ?hQ41 ?hy41 ?rest41
      case hi41 => exact rfl
      case hs41 => kernel_rfl
      case hf41 => kernel_rfl
      case hr41 => kernel_rfl
      case hQ41 => exact fun _ _ _ h => h
      case hy41 =>
        refine .inl ⟨by rfl, fun W _ => ?_⟩
        go_simp
        try with_reducible rfl
      try simp only [Act.put, List.setIfInBounds_toArray, List.set_cons_zero, List.set_cons_succ]
      refine Held2.Ways.take (i := 1) (oi := ?o42) ?v42 ?hi42 ?hs42 ?hf42 ?hlw42 ?hr42 ?hQ42 HSX ?hy42 ?rest42
      case hi42 => exact rfl
      case hs42 => kernel_rfl
      case hf42 => kernel_rfl
      case hlw42 => kernel_rfl
      case hr42 => kernel_rfl
      case hQ42 => exact fun _ _ _ h => h
      case hy42 =>
        refine .inl ⟨by rfl, fun W hW => ?_⟩
        obtain ⟨f0, f1, f2, f3, f4, f5, f6, f7, f8⟩ := row8_facts hW
        go_simp
        try with_reducible rfl
      try simp only [Act.put, List.setIfInBounds_toArray, List.set_cons_zero, List.set_cons_succ]
      refine Held2.Ways.plain (i := 2) (oi := ?o43) ?v43 ?hi43 ?hs43 ?hf43 ?hr43 ?hQ43 ?hy43 ?rest43
      case hi43 => exact rfl
      case hs43 => kernel_rfl
      case hf43 => kernel_rfl
      case hr43 => kernel_rfl
      case hQ43 => exact fun _ _ _ h => h
      case hy43 =>
        refine .inl ⟨by rfl, fun W _ => ?_⟩
        go_simp
        try with_reducible rfl
      try simp only [Act.put, List.setIfInBounds_toArray, List.set_cons_zero, List.set_cons_succ]
      refine Held2.Ways.plain (i := 3) (oi := ?o44) ?v44 ?hi44 ?hs44 ?hf44 ?hr44 ?hQ44 ?hy44 ?rest44
      case hi44 => exact rfl
      case hs44 => kernel_rfl
      case hf44 => kernel_rfl
      case hr44 => kernel_rfl
      case hQ44 => exact fun _ _ _ h => h
      case hy44 =>
        refine .inl ⟨by rfl, fun W _ => ?_⟩
        go_simp
        try with_reducible rfl
      try simp only [Act.put, List.setIfInBounds_toArray, List.set_cons_zero, List.set_cons_succ]
      refine Held2.Ways.plain (i := 4) (oi := ?o45) ?v45 ?hi45 ?hs45 ?hf45 ?hr45 ?hQ45 ?hy45 ?rest45
      case hi45 => exact rfl
      case hs45 => kernel_rfl
      case hf45 => kernel_rfl
      case hr45 => kernel_rfl
      case hQ45 => exact fun _ _ _ h => h
      case hy45 =>
        refine .inl ⟨by rfl, fun W _ => ?_⟩
        go_simp
        try with_reducible rfl
      try simp only [Act.put, List.setIfInBounds_toArray, List.set_cons_zero, List.set_cons_succ]
      refine Held2.Ways.take (i := 5) (oi := ?o46) ?v46 ?hi46 ?hs46 ?hf46 ?hlw46 ?hr46 ?hQ46 HSX ?hy46 ?rest46
      case hi46 => exact rfl
      case hs46 => kernel_rfl
      case hf46 => kernel_rfl
      case hlw46 => kernel_rfl
      case hr46 => kernel_rfl
      case hQ46 => exact fun _ _ _ h => h
      case hy46 =>
        refine .inl ⟨by rfl, fun W hW => ?_⟩
        obtain ⟨f0, f1, f2, f3, f4, f5, f6, f7, f8⟩ := row8_facts hW
        go_simp
        try with_reducible rfl
      try simp only [Act.put, List.setIfInBounds_toArray, List.set_cons_zero, List.set_cons_succ]
      refine Held2.Ways.plain (i := 6) (oi := ?o47) ?v47 ?hi47 ?hs47 ?hf47 ?hr47 ?hQ47 ?hy47 ?rest47
      case hi47 => exact rfl
      case hs47 => kernel_rfl
      case hf47 => kernel_rfl
      case hr47 => kernel_rfl
      case hQ47 => exact fun _ _ _ h => h
      case hy47 =>
        refine .inl ⟨by rfl, fun W _ => ?_⟩
        go_simp
        try with_reducible rfl
      try simp only [Act.put, List.setIfInBounds_toArray, List.set_cons_zero, List.set_cons_succ]
      refine Held2.Ways.plain (i := 7) (oi := ?o48) ?v48 ?hi48 ?hs48 ?hf48 ?hr48 ?hQ48 ?hy48 ?rest48
      case hi48 => exact rfl
      case hs48 => kernel_rfl
      case hf48 => kernel_rfl
      case hr48 => kernel_rfl
      case hQ48 => exact fun _ _ _ h => h
      case hy48 =>
        refine .inl ⟨by rfl, fun W _ => ?_⟩
        go_simp
        try with_reducible rfl
      try simp only [Act.put, List.setIfInBounds_toArray, List.set_cons_zero, List.set_cons_succ]
      refine Held2.Ways.plain (i := 8) (oi := ?o49) ?v49 ?hi49 ?hs49 ?hf49 ?hr49 ?hQ49 ?hy49 ?rest49
      case hi49 => exact rfl
      case hs49 => kernel_rfl
      case hf49 => kernel_rfl
      case hr49 => kernel_rfl
      case hQ49 => exact fun _ _ _ h => h
      case hy49 =>
        refine .inl ⟨by rfl, fun W _ => ?_⟩
        go_simp
        try with_reducible rfl
      try simp only [Act.put, List.setIfInBounds_toArray, List.set_cons_zero, List.set_cons_succ]
      obtain ⟨f0, f1, f2, f3, f4, f5, f6, f7, f8⟩ := row8_facts HSX
      refine Held2.Ways.one (i := 9) (by rfl) (by kernel_rfl) (fun K hK => ?_)
      go_simp
      refine hK.out _ _ (fun h => absurd h (by decide)) ?_
      clear hK K
      try simp only [Act.put, List.setIfInBounds_toArray, List.set_cons_zero, List.set_cons_succ]
      refine Held2.Ways.plain (i := 10) (oi := ?o50) ?v50 ?hi50 ?hs50 ?hf50 ?hr50 ?hQ50 ?hy50 ?rest50
      case hi50 => exact rfl
      case hs50 => kernel_rfl
      case hf50 => kernel_rfl
      case hr50 => kernel_rfl
      case hQ50 => exact fun _ _ _ h => h
      case hy50 =>
        refine .inl ⟨by rfl, fun W _ => ?_⟩
        go_simp
        try with_reducible rfl
      try simp only [Act.put, List.setIfInBounds_toArray, List.set_cons_zero, List.set_cons_succ]
      refine Held2.Ways.one (i := 11) (by rfl) (by kernel_rfl) (fun K hK => ?_)
      go_simp
      refine hK.out _ _ (fun h => absurd h (by decide)) ?_
      clear hK K
      try simp only [Act.put, List.setIfInBounds_toArray, List.set_cons_zero, List.set_cons_succ]
      refine Held2.Ways.done (by kernel_rfl) ?_ _
      clear f0 f1 f2 f3 f4 f5 f6 f7 f8 HSX
      obtain ⟨X5, hX5⟩ : ∃ V, V = ((DX5.setCell ⟨g6, 1, none⟩ (.slice (some ⟨gkb, okb + m, none⟩) (p.keys.length - m) (ckb - m))).setCell ⟨g6, 3, none⟩ (.slice (some ⟨gnb, onb + m, none⟩) (p.kids.length - m) (cnb - m))) := ⟨_, rfl⟩
      rw [← hX5]
      have HNX5 : Hid (∀ k, k ≠ g6 → X5.heap[k]? = DX5.heap[k]?) := fun k hk => by rw [hX5]; exact (Below.heap_setCell _ _ _ _ hk).trans (Below.heap_setCell _ _ _ _ hk)
      have HR6X5 : Hid (X5.heap[g6]? = some (.cells #[.int .i64 p.kind, .slice (some ⟨gkb, okb + m, none⟩) (p.keys.length - m) (ckb - m), .slice Avb p.vals.length cvb, .slice (some ⟨gnb, onb + m, none⟩) (p.kids.length - m) (cnb - m), .int .i64 0, .int .i64 0, .int .i64 0, .int .i64 0] 26 (0, 0))) := by
        rw [hX5]
        have h9 := heap_setCell_same _ g6 3 _ _ (.slice (some ⟨gnb, onb + m, none⟩) (p.kids.length - m) (cnb - m)) (heap_setCell_same DX5 g6 1 _ _ (.slice (some ⟨gkb, okb + m, none⟩) (p.keys.length - m) (ckb - m)) HR6DX5.out)
        exact Lib.hid (by simpa using h9)
      have HR5X5 := Lib.hid ((HNX5.out g5 HNE.out).trans HR5DX5.out)
      have HAX5 := Lib.hid (HADX5.out.keep HR6DX5.out HNX5.out)
      have HBX5 := Lib.hid (HBDX5.out.keep HR6DX5.out HNX5.out)
      have HLX5 : Hid (Below W0.heap.size W0 X5) := by rw [hX5]; exact below_set (below_set HLDX5.out H6.out _) H6.out _
      clear hX5
      go_upto_region 11 with fail
      refine Held2.ways_start (fun W : World => W.heap[g5]? = some (.cells #[.int .i64 p.kind, .slice (some ⟨gka, oka, none⟩) q cka, .slice Ava p.vals.length cva, .slice (some ⟨gna, ona, none⟩) m cna, .int .i64 0, .int .i64 0, .int .i64 0, .int .i64 0] 26 (0, 0)) ∧ W.heap[g6]? = some (.cells #[.int .i64 p.kind, .slice (some ⟨gkb, okb + m, none⟩) (p.keys.length - m) (ckb - m), .slice Avb p.vals.length cvb, .slice (some ⟨gnb, onb + m, none⟩) (p.kids.length - m) (cnb - m), .int .i64 0, .int .i64 0, .int .i64 0, .int .i64 0] 26 (0, 0))) (fun _ => true) (by kernel_rfl) ?_
      have HSS : Hid (∀ W : World, (∀ k, W0.heap.size ≤ k → W.heap[k]? = X5.heap[k]?) → (fun W : World => W.heap[g5]? = some (.cells #[.int .i64 p.kind, .slice (some ⟨gka, oka, none⟩) q cka, .slice Ava p.vals.length cva, .slice (some ⟨gna, ona, none⟩) m cna, .int .i64 0, .int .i64 0, .int .i64 0, .int .i64 0] 26 (0, 0)) ∧ W.heap[g6]? = some (.cells #[.int .i64 p.kind, .slice (some ⟨gkb, okb + m, none⟩) (p.keys.length - m) (ckb - m), .slice Avb p.vals.length cvb, .slice (some ⟨gnb, onb + m, none⟩) (p.kids.length - m) (cnb - m), .int .i64 0, .int .i64 0, .int .i64 0, .int .i64 0] 26 (0, 0))) W) := Lib.hid (by
        intro W hk
        refine ⟨(hk g5 H5.out).trans HR5X5.out, (hk g6 H6.out).trans HR6X5.out⟩)
      obtain ⟨DF, hD⟩ : ∃ D, D = X5.drew := ⟨_, rfl⟩
      rw [← hD]
      have HD : Hid (∀ k : Nat, DF.heap[k]? = X5.heap[k]?) := fun k => by rw [hD]; rfl
      have HLDF : Hid (Below W0.heap.size W0 DF) := by rw [hD]; exact HLX5.out.drew
      clear hD
      have HSX := HSS.out DF (fun k _ => HD.out k)
      have HZ2 : Hid (DF.heap[w.heap.size + 1]? = some (.cells #[.int .i64 0, .slice none 0 0, .slice none 0 0, .slice none 0 0, .int .i64 0, .int .i64 0, .int .i64 0, .int .i64 0] 26 (0, 0))) := (HLDF.out.block _ (by rw [HSz.out]; omega)).trans HR2.out
      have HZ4 : Hid (∀ W : World, (∀ k, k ≠ w.heap.size + 1 → W.heap[k]? = DF.heap[k]?) → W.heap[w.heap.size + 1 + 1]? = some (.cells #[.int .i64 0, .slice none 0 0, .slice none 0 0, .slice none 0 0, .int .i64 0, .int .i64 0, .int .i64 0, .int .i64 0] 26 (0, 0))) := fun W hk => (hk _ (by omega)).trans ((HLDF.out.block _ (by rw [HSz.out]; omega)).trans HR4.out)
      refine Held2.Ways.take (i := 0) (oi := ?o51) ?v51 ?hi51 ?hs51 ?hf51 ?hlw51 ?hr51 ?hQ51 HSX ?hy51 ?rest51
      case hi51 => exact rfl
      case hs51 => kernel_rfl
      case hf51 => kernel_rfl
      case hlw51 => kernel_rfl
      case hr51 => kernel_rfl
      case hQ51 => exact fun _ _ _ h => h
      case hy51 =>
        refine .inl ⟨by rfl, fun W hW => ?_⟩
        obtain ⟨hW1, hW2⟩ := hW
        obtain ⟨f0, f1, f2, f3, f4, f5, f6, f7, f8⟩ := row8_facts hW1
        obtain ⟨z0, z1, z2, z3, z4, z5, z6, z7, z8⟩ := row8_facts hW2
        go_simp
        try with_reducible rfl
      try simp only [Act.put, List.setIfInBounds_toArray, List.set_cons_zero, List.set_cons_succ]
      refine Held2.Ways.plain (i := 1) (oi := ?o52) ?v52 ?hi52 ?hs52 ?hf52 ?hr52 ?hQ52 ?hy52 ?rest52
      case hi52 => exact rfl
      case hs52 => kernel_rfl
      case hf52 => kernel_rfl
      case hr52 => kernel_rfl
      case hQ52 => exact fun _ _ _ h => h
      case hy52 =>
        refine .inl ⟨by rfl, fun W _ => ?_⟩
        go_simp
        try with_reducible rfl
      try simp only [Act.put, List.setIfInBounds_toArray, List.set_cons_zero, List.set_cons_succ]
      refine Held2.Ways.take (i := 2) (oi := ?o53) ?v53 ?hi53 ?hs53 ?hf53 ?hlw53 ?hr53 ?hQ53 HSX ?hy53 ?rest53
      case hi53 => exact rfl
      case hs53 => kernel_rfl
      case hf53 => kernel_rfl
      case hlw53 => kernel_rfl
      case hr53 => kernel_rfl
      case hQ53 => exact fun _ _ _ h => h
      case hy53 =>
        refine .inl ⟨by rfl, fun W hW => ?_⟩
        obtain ⟨hW1, hW2⟩ := hW
        obtain ⟨f0, f1, f2, f3, f4, f5, f6, f7, f8⟩ := row8_facts hW1
        obtain ⟨z0, z1, z2, z3, z4, z5, z6, z7, z8⟩ := row8_facts hW2
        go_simp
        try with_reducible rfl
      try simp only [Act.put, List.setIfInBounds_toArray, List.set_cons_zero, List.set_cons_succ]
      clear HSX
      obtain ⟨f0, f1, f2, f3, f4, f5, f6, f7, f8⟩ := row8_facts HZ2.out
      refine Held2.Ways.one (i := 3) (by rfl) (by kernel_rfl) (fun K hK => ?_)
      go_simp
      refine hK.out _ _ (fun _ _ => HSS.out _ (fun k hk => (set8_ne _ (by have := HSz.out; omega) _ _ _ _ _ _ _ _).trans (HD.out k))) ?_
      clear hK K
      try simp only [Act.put, List.setIfInBounds_toArray, List.set_cons_zero, List.set_cons_succ]
      obtain ⟨Y1, hY1⟩ : ∃ V, V = ((((((((DF.setCell ⟨(w.heap.size + 1), 0, none⟩ (.int .i64 p.kind)).setCell ⟨(w.heap.size + 1), 1, none⟩ (.slice (some ⟨gka, oka, none⟩) q cka)).setCell ⟨(w.heap.size + 1), 2, none⟩ (.slice Ava p.vals.length cva)).setCell ⟨(w.heap.size + 1), 3, none⟩ (.slice (some ⟨gna, ona, none⟩) m cna)).setCell ⟨(w.heap.size + 1), 4, none⟩ (.int .i64 0)).setCell ⟨(w.heap.size + 1), 5, none⟩ (.int .i64 0)).setCell ⟨(w.heap.size + 1), 6, none⟩ (.int .i64 0)).setCell ⟨(w.heap.size + 1), 7, none⟩ (.int .i64 0)) := ⟨_, rfl⟩
      rw [← hY1]
      clear f0 f1 f2 f3 f4 f5 f6 f7 f8
      have HN1 : Hid (∀ k, k ≠ w.heap.size + 1 → Y1.heap[k]? = DF.heap[k]?) := fun k hk => by rw [hY1]; exact set8_ne _ hk _ _ _ _ _ _ _ _
      have HQ2 : Hid (Y1.heap[w.heap.size + 1]? = some (.cells #[.int .i64 p.kind, .slice (some ⟨gka, oka, none⟩) q cka, .slice Ava p.vals.length cva, .slice (some ⟨gna, ona, none⟩) m cna, .int .i64 0, .int .i64 0, .int .i64 0, .int .i64 0] 26 (0, 0))) := by rw [hY1]; exact row8_set HZ2.out _ _ _ _ _ _ _ _
      have HLY : Hid (Below w.heap.size w Y1) := by rw [hY1]; exact set8_below (HBw.out.trans (HLDF.out.mono HSw.out)) (Nat.le_succ _) _ _ _ _ _ _ _ _
      clear hY1
      have HSY := HSS.out Y1 (fun k hk => (HN1.out k (by have := HSz.out; omega)).trans (HD.out k))
      obtain ⟨f0, f1, f2, f3, f4, f5, f6, f7, f8⟩ := row8_facts (HZ4.out Y1 HN1.out)
      refine Held2.Ways.plain (i := 4) (oi := ?o54) ?v54 ?hi54 ?hs54 ?hf54 ?hr54 ?hQ54 ?hy54 ?rest54
      case hi54 => exact rfl
      case hs54 => kernel_rfl
      case hf54 => kernel_rfl
      case hr54 => kernel_rfl
      case hQ54 => exact fun _ _ _ h => h
      case hy54 =>
        refine .inl ⟨by rfl, fun W _ => ?_⟩
        go_simp
        try with_reducible rfl
      try simp only [Act.put, List.setIfInBounds_toArray, List.set_cons_zero, List.set_cons_succ]
      refine Held2.Ways.one (i := 5) (by rfl) (by kernel_rfl) (fun K hK => ?_)
      go_simp
      refine hK.out _ _ (fun _ _ => HSS.out _ (fun k hk => (set8_ne _ (by have := HSz.out; omega) _ _ _ _ _ _ _ _).trans ((HN1.out k (by have := HSz.out; omega)).trans (HD.out k)))) ?_
      clear hK K
      try simp only [Act.put, List.setIfInBounds_toArray, List.set_cons_zero, List.set_cons_succ]
      refine Held2.Ways.done (by kernel_rfl) ?_ _
      go_wp2_with fail
      clear f0 f1 f2 f3 f4 f5 f6 f7 f8
      have HFW : Hid (∀ k, W0.heap.size ≤ k → (((((((((Y1.setCell ⟨(w.heap.size + 1 + 1), 0, none⟩ (.int .i64 p.kind)).setCell ⟨(w.heap.size + 1 + 1), 1, none⟩ (.slice (some ⟨gkb, okb + m, none⟩) (p.keys.length - m) (ckb - m))).setCell ⟨(w.heap.size + 1 + 1), 2, none⟩ (.slice Avb p.vals.length cvb)).setCell ⟨(w.heap.size + 1 + 1), 3, none⟩ (.slice (some ⟨gnb, onb + m, none⟩) (p.kids.length - m) (cnb - m))).setCell ⟨(w.heap.size + 1 + 1), 4, none⟩ (.int .i64 0)).setCell ⟨(w.heap.size + 1 + 1), 5, none⟩ (.int .i64 0)).setCell ⟨(w.heap.size + 1 + 1), 6, none⟩ (.int .i64 0)).setCell ⟨(w.heap.size + 1 + 1), 7, none⟩ (.int .i64 0))).heap[k]? = X5.heap[k]?) := fun k hk => (set8_ne _ (by have := HSz.out; omega) _ _ _ _ _ _ _ _).trans ((HN1.out k (by have := HSz.out; omega)).trans (HD.out k))
      refine bodyPost_ret (results_row_tmp_row rfl _ _ (g := w.heap.size + 1) (g2 := w.heap.size + 1 + 1) ((set8_ne _ (by omega) _ _ _ _ _ _ _ _).trans HQ2.out) rfl (row8_set (HZ4.out Y1 HN1.out) _ _ _ _ _ _ _ _) rfl Try.underlying26 rfl rfl rfl) rfl ?_
      have hA := (HAX5.out.kept HFW.out).rd
      have hB := (HBX5.out.kept HFW.out).rd
      have hL := set8_below HLY.out (show w.heap.size ≤ w.heap.size + 1 + 1 by omega) (.int .i64 p.kind) (.slice (some ⟨gkb, okb + m, none⟩) (p.keys.length - m) (ckb - m)) (.slice Avb p.vals.length cvb) (.slice (some ⟨gnb, onb + m, none⟩) (p.kids.length - m) (cnb - m)) (.int .i64 0) (.int .i64 0) (.int .i64 0) (.int .i64 0)
      obtain ⟨l1, l2, l3⟩ := HLENS.out
      have hmid : midS p = km := by
        unfold midS cutAt
        rw [if_neg (by rw [HK1.out]; decide), if_neg (by rw [HK1.out]; decide), ← HM.out, HQ.out, Nat.add_sub_cancel, List.getD_eq_getElem?_getD, HKQ.out]; rfl
      have hleft : leftP p = ⟨p.kind, p.keys.take q, p.vals, p.kids.take m⟩ := by
        unfold leftP cutAt
        rw [if_neg (by rw [HK1.out]; decide), if_neg (by rw [HK1.out]; decide), ← HM.out, HQ.out, Nat.add_sub_cancel]
      have hright : rightP p = ⟨p.kind, p.keys.drop m, p.vals, p.kids.drop m⟩ := by
        unfold rightP cutAt
        rw [if_neg (by rw [HK1.out]; decide), if_neg (by rw [HK1.out]; decide), ← HM.out]
      have hv3 := HK3.out
      refine ⟨_, _, _, _, _, _, by rw [hmid]; rfl, ?_, ?_, hL⟩
      · rw [hleft]
        exact ⟨rd_take_s hA.keys (by have := HQ.out; omega), hA.vals, rd_take_i hA.kids n4, by simp; omega, l2, by simp; omega⟩
      · rw [hright]
        exact ⟨rd_drop_s hB.keys m2, hB.vals, rd_drop_i hB.kids (by omega), by simp; omega, l2, by simp; omega⟩
end Go.Proofs.Ytfhpgmgmofganaa.NodeA
