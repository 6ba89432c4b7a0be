/- Pages in memory; Clone. -/
import Derived.Test.YtfhpgmgmofganaaNodeA
import Derived.Test.YtfhpgmgmofganaaHeld
set_option linter.unusedVariables false
set_option linter.unusedSimpArgs false
set_option linter.unusedSectionVars false
namespace Go.Proofs.Ytfhpgmgmofganaa.NodeA
open Go.RowKit Go.WideShapes Go.Deep Go.Proofs.Ytfhpgmgmofganaa.Mem Go.Proofs.Ytfhpgmgmofganaa.Open Go.Proofs.Ytfhpgmgmofganaa.Kv
/-- A page: its kind, keys, values, kids; the rest is nought. -/
structure Pg where
  kind : Int
  keys : List S
  vals : List S
  kids : List Int
def pv (kind : Int) (kv vv nv : Value) : Value := .agg #[.int .i64 kind, kv, vv, nv, .int .i64 0, .int .i64 0, .int .i64 0, .int .i64 0]
/-- The slices of a page, read. -/
structure PgR (w : World) (kv vv nv : Value) (p : Pg) : Prop where
  keys : Rd w w.heap.size 1 kv p.keys.length (sc p.keys)
  vals : Rd w w.heap.size 1 vv p.vals.length (sc p.vals)
  kids : Rd w w.heap.size 1 nv p.kids.length (ic p.kids)
  lens : p.keys.length ≤ 100 ∧ p.vals.length ≤ 100 ∧ p.kids.length ≤ 100
theorem PgR.up {w w' : World} {kv vv nv : Value} {p : Pg} (h : PgR w kv vv nv p) (hb : Below w.heap.size w w') : PgR w' kv vv nv p := ⟨h.keys.up hb, h.vals.up hb, h.kids.up hb, h.lens⟩
/-- The slices of a page, each in memory of the call's own, apart from each other. -/
structure PgO (w : World) (base : Nat) (kv vv nv : Value) (p : Pg) : Prop where
  keys : Own w base 9 1 kv p.keys.length (sc p.keys)
  vals : Own w base 9 1 vv p.vals.length (sc p.vals)
  kids : Own w base 3 1 nv p.kids.length (ic p.kids)
  lens : p.keys.length ≤ 100 ∧ p.vals.length ≤ 100 ∧ p.kids.length ≤ 100
  apart : ∀ g, kv.ownBlock = some g → vv.ownBlock ≠ some g
theorem PgO.rd {w : World} {base : Nat} {kv vv nv : Value} {p : Pg} (h : PgO w base kv vv nv p) : PgR w kv vv nv p := ⟨h.keys.rd, h.vals.rd, h.kids.rd, h.lens⟩
theorem cells8 (w : World) (a b c d e f g h : Value) (t : TypeId) : (w.alloc (.cells #[a, b, c, d, e, f, g, h] t)).cell? ⟨w.heap.size, 1, none⟩ = some b ∧ (w.alloc (.cells #[a, b, c, d, e, f, g, h] t)).cell? ⟨w.heap.size, 2, none⟩ = some c ∧ (w.alloc (.cells #[a, b, c, d, e, f, g, h] t)).cell? ⟨w.heap.size, 3, none⟩ = some d :=
  ⟨by rw [cell_of_row _ _ _ _ _ _ (heap_alloc_new w _)]; rfl, by rw [cell_of_row _ _ _ _ _ _ (heap_alloc_new w _)]; rfl, by rw [cell_of_row _ _ _ _ _ _ (heap_alloc_new w _)]; rfl⟩
/-- A block of eight cells. -/
theorem row8_facts {w : World} {g : Nat} {a b c d e f g1 h : Value} {t : TypeId} (hr : w.heap[g]? = some (.cells #[a, b, c, d, e, f, g1, h] t (0, 0))) : w.cell? ⟨g, 0, none⟩ = some a ∧ w.cell? ⟨g, 1, none⟩ = some b ∧ w.cell? ⟨g, 2, none⟩ = some c ∧ w.cell? ⟨g, 3, none⟩ = some d ∧ w.cell? ⟨g, 4, none⟩ = some e ∧ w.cell? ⟨g, 5, none⟩ = some f ∧ w.cell? ⟨g, 6, none⟩ = some g1 ∧ w.cell? ⟨g, 7, none⟩ = some h ∧ ∀ j, w.frozen? ⟨g, j, none⟩ = false :=
  ⟨by rw [cell_of_row _ _ _ _ _ _ hr]; rfl, by rw [cell_of_row _ _ _ _ _ _ hr]; rfl, by rw [cell_of_row _ _ _ _ _ _ hr]; rfl, by rw [cell_of_row _ _ _ _ _ _ hr]; rfl, by rw [cell_of_row _ _ _ _ _ _ hr]; rfl, by rw [cell_of_row _ _ _ _ _ _ hr]; rfl, by rw [cell_of_row _ _ _ _ _ _ hr]; rfl, by rw [cell_of_row _ _ _ _ _ _ hr]; rfl, fun j => by unfold World.frozen?; rw [hr]; rfl⟩
theorem row8_set {w : World} {g : Nat} {a b c d e f g1 h : Value} {t : TypeId} (hr : w.heap[g]? = some (.cells #[a, b, c, d, e, f, g1, h] t (0, 0))) (a' b' c' d' e' f' g' h' : Value) :
    ((((((((w.setCell ⟨g, 0, none⟩ a').setCell ⟨g, 1, none⟩ b').setCell ⟨g, 2, none⟩ c').setCell ⟨g, 3, none⟩ d').setCell ⟨g, 4, none⟩ e').setCell ⟨g, 5, none⟩ f').setCell ⟨g, 6, none⟩ g').setCell ⟨g, 7, none⟩ h').heap[g]? = some (.cells #[a', b', c', d', e', f', g', h'] t (0, 0)) := by
  have := heap_setCell_same _ g 7 _ t h' (heap_setCell_same _ g 6 _ t g' (heap_setCell_same _ g 5 _ t f' (heap_setCell_same _ g 4 _ t e' (heap_setCell_same _ g 3 _ t d' (heap_setCell_same _ g 2 _ t c' (heap_setCell_same _ g 1 _ t b' (heap_setCell_same w g 0 _ t a' hr)))))))
  simpa using this
/-- What lies under a frame of the call's own block and what it has made. -/
theorem below_set {B : Nat} {a w : World} (h : Below B a w) {g j : Nat} (hg : B ≤ g) (u : Value) : Below B a (w.setCell ⟨g, j, none⟩ u) := h.setCell hg u
set_option maxHeartbeats 1000000 in
set_option maxRecDepth 100000 in
theorem clone_any {kv vv nv : Value} {p : Pg} (w : World) (h : PgR w kv vv nv p) :
    Calls Try.prog 11 #[pv p.kind kv vv nv] w fun e w' => ∃ kv' vv' nv', e = .returned (pv p.kind kv' vv' nv') ∧ PgO w' w.heap.size kv' vv' nv' p ∧ Below w.heap.size w w' := by
  obtain ⟨Ak, ck, rfl⟩ : ∃ A c, kv = .slice A p.keys.length c := by obtain ⟨_, A, c, e, _⟩ := h.keys; exact ⟨A, c, e⟩
  obtain ⟨Av, cv, rfl⟩ : ∃ A c, vv = .slice A p.vals.length c := by obtain ⟨_, A, c, e, _⟩ := h.vals; exact ⟨A, c, e⟩
  obtain ⟨An, cn, rfl⟩ : ∃ A c, nv = .slice A p.kids.length c := by obtain ⟨_, A, c, e, _⟩ := h.kids; exact ⟨A, c, e⟩
  have HK : Hid (∀ W, Below w.heap.size w W → Rd W W.heap.size 1 (.slice Ak p.keys.length ck) p.keys.length (sc p.keys)) := fun W hb => h.keys.up hb
  have HV : Hid (∀ W, Below w.heap.size w W → Rd W W.heap.size 1 (.slice Av p.vals.length cv) p.vals.length (sc p.vals)) := fun W hb => h.vals.up hb
  have HN : Hid (∀ W, Below w.heap.size w W → Rd W W.heap.size 1 (.slice An p.kids.length cn) p.kids.length (ic p.kids)) := fun W hb => h.kids.up hb
  obtain ⟨l1, l2, l3⟩ := h.lens
  clear h
  unfold pv
  go_enter Try.func11, Try.ntmps11
  go_wp2_with fail
  obtain ⟨W0, hW0⟩ : ∃ W0, W0 = ((w.alloc (.cells #[.int .i64 p.kind, .slice Ak p.keys.length ck, .slice Av p.vals.length cv, .slice An p.kids.length cn, .int .i64 0, .int .i64 0, .int .i64 0, .int .i64 0] 26)).alloc (.cells #[.int .i64 0, .slice none 0 0, .slice none 0 0, .slice none 0 0, .int .i64 0, .int .i64 0, .int .i64 0, .int .i64 0] 26)) := ⟨_, rfl⟩
  rw [← hW0]
  have hs0 : W0.heap.size = w.heap.size + 2 := by rw [hW0]; simp
  have HB0 : Hid (Below w.heap.size w W0.drew) := by rw [hW0]; exact (((Below.refl _ w).alloc (Nat.le_refl _) _).alloc (by simp) _).drew
  have HR1 : Hid (∀ W, Below (w.heap.size + 2) W0 W → W.heap[w.heap.size]? = some (.cells #[.int .i64 p.kind, .slice Ak p.keys.length ck, .slice Av p.vals.length cv, .slice An p.kids.length cn, .int .i64 0, .int .i64 0, .int .i64 0, .int .i64 0] 26 (0, 0))) := fun W hb => by
    rw [hb.block _ (by omega), hW0, Below.heap_alloc _ _ _ (by simp)]; exact heap_alloc_new w _
  have HR2 : Hid (∀ W, Below (w.heap.size + 2) W0 W → W.heap[w.heap.size + 1]? = some (.cells #[.int .i64 0, .slice none 0 0, .slice none 0 0, .slice none 0 0, .int .i64 0, .int .i64 0, .int .i64 0, .int .i64 0] 26 (0, 0))) := fun W hb => by
    rw [hb.block _ (by omega), hW0]
    have := heap_alloc_new (w.alloc (.cells #[.int .i64 p.kind, .slice Ak p.keys.length ck, .slice Av p.vals.length cv, .slice An p.kids.length cn, .int .i64 0, .int .i64 0, .int .i64 0, .int .i64 0] 26)) (.cells #[.int .i64 0, .slice none 0 0, .slice none 0 0, .slice none 0 0, .int .i64 0, .int .i64 0, .int .i64 0, .int .i64 0] 26)
    simpa using this
  have HS0 := Lib.hid hs0
  obtain ⟨f0, f1, f2, f3, f4, f5, f6, f7, f8⟩ := row8_facts (HR1.out W0 (Below.refl _ _))
  have hD0 : Hid (Below (w.heap.size + 2) W0 W0.drew) := (Below.refl _ W0).drew
  clear hW0 hs0
  refine Held.ways_start (fun W => W.heap[w.heap.size]? = some (.cells #[.int .i64 p.kind, .slice Ak p.keys.length ck, .slice Av p.vals.length cv, .slice An p.kids.length cn, .int .i64 0, .int .i64 0, .int .i64 0, .int .i64 0] 26 (0, 0))) (fun k => decide (k < 10)) (by kernel_rfl) ?_
  have HS : W0.drew.heap[w.heap.size]? = some (.cells #[.int .i64 p.kind, .slice Ak p.keys.length ck, .slice Av p.vals.length cv, .slice An p.kids.length cn, .int .i64 0, .int .i64 0, .int .i64 0, .int .i64 0] 26 (0, 0)) := HR1.out W0 (Below.refl _ _)
  refine Held.Ways.take (i := 0) (oi := ?o1) ?v1 ?hi1 ?hs1 ?hf1 ?hlw1 ?hr1 ?hQ1 HS ?hy1 ?rest1
  case hi1 => exact rfl
  case hs1 => kernel_rfl
  case hf1 => kernel_rfl
  case hlw1 => kernel_rfl
  case hr1 => kernel_rfl
  case hQ1 => exact fun _ _ _ h => h
  case hy1 =>
    refine .inl ⟨by rfl, fun W hW => ?_⟩
    obtain ⟨f0, f1, f2, f3, f4, f5, f6, f7, f8⟩ := row8_facts hW
    go_simp
    try with_reducible rfl
  try simp only [Act.put, List.setIfInBounds_toArray, List.set_cons_zero, List.set_cons_succ]
  refine Held.Ways.take (i := 1) (oi := ?o2) ?v2 ?hi2 ?hs2 ?hf2 ?hlw2 ?hr2 ?hQ2 HS ?hy2 ?rest2
  case hi2 => exact rfl
  case hs2 => kernel_rfl
  case hf2 => kernel_rfl
  case hlw2 => kernel_rfl
  case hr2 => kernel_rfl
  case hQ2 => exact fun _ _ _ h => h
  case hy2 =>
    refine .inl ⟨by rfl, fun W hW => ?_⟩
    obtain ⟨f0, f1, f2, f3, f4, f5, f6, f7, f8⟩ := row8_facts hW
    go_simp
    try with_reducible rfl
  try simp only [Act.put, List.setIfInBounds_toArray, List.set_cons_zero, List.set_cons_succ]
  refine Held.Ways.take (i := 3) (oi := ?o3) ?v3 ?hi3 ?hs3 ?hf3 ?hlw3 ?hr3 ?hQ3 HS ?hy3 ?rest3
  case hi3 => exact rfl
  case hs3 => kernel_rfl
  case hf3 => kernel_rfl
  case hlw3 => kernel_rfl
  case hr3 => kernel_rfl
  case hQ3 => exact fun _ _ _ h => h
  case hy3 =>
    refine .inl ⟨by rfl, fun W hW => ?_⟩
    obtain ⟨f0, f1, f2, f3, f4, f5, f6, f7, f8⟩ := row8_facts hW
    go_simp
    try with_reducible rfl
  try simp only [Act.put, List.setIfInBounds_toArray, List.set_cons_zero, List.set_cons_succ]
  refine Held.Ways.take (i := 4) (oi := ?o4) ?v4 ?hi4 ?hs4 ?hf4 ?hlw4 ?hr4 ?hQ4 HS ?hy4 ?rest4
  case hi4 => exact rfl
  case hs4 => kernel_rfl
  case hf4 => kernel_rfl
  case hlw4 => kernel_rfl
  case hr4 => kernel_rfl
  case hQ4 => exact fun _ _ _ h => h
  case hy4 =>
    refine .inl ⟨by rfl, fun W hW => ?_⟩
    obtain ⟨f0, f1, f2, f3, f4, f5, f6, f7, f8⟩ := row8_facts hW
    go_simp
    try with_reducible rfl
  try simp only [Act.put, List.setIfInBounds_toArray, List.set_cons_zero, List.set_cons_succ]
  refine Held.Ways.take (i := 6) (oi := ?o5) ?v5 ?hi5 ?hs5 ?hf5 ?hlw5 ?hr5 ?hQ5 HS ?hy5 ?rest5
  case hi5 => exact rfl
  case hs5 => kernel_rfl
  case hf5 => kernel_rfl
  case hlw5 => kernel_rfl
  case hr5 => kernel_rfl
  case hQ5 => exact fun _ _ _ h => h
  case hy5 =>
    refine .inl ⟨by rfl, fun W hW => ?_⟩
    obtain ⟨f0, f1, f2, f3, f4, f5, f6, f7, f8⟩ := row8_facts hW
    go_simp
    try with_reducible rfl
  try simp only [Act.put, List.setIfInBounds_toArray, List.set_cons_zero, List.set_cons_succ]
  refine Held.Ways.take (i := 7) (oi := ?o6) ?v6 ?hi6 ?hs6 ?hf6 ?hlw6 ?hr6 ?hQ6 HS ?hy6 ?rest6
  case hi6 => exact rfl
  case hs6 => kernel_rfl
  case hf6 => kernel_rfl
  case hlw6 => kernel_rfl
  case hr6 => kernel_rfl
  case hQ6 => exact fun _ _ _ h => h
  case hy6 =>
    refine .inl ⟨by rfl, fun W hW => ?_⟩
    obtain ⟨f0, f1, f2, f3, f4, f5, f6, f7, f8⟩ := row8_facts hW
    go_simp
    try with_reducible rfl
  try simp only [Act.put, List.setIfInBounds_toArray, List.set_cons_zero, List.set_cons_succ]
  clear HS
  refine Held.Ways.one (i := 2) (by rfl) (by kernel_rfl) (fun K hK => ?_)
  go_simp
  go_at_call 21
  refine (SlS.clone (n := p.keys.length) (xs := sc p.keys) _ (HK.out _ HB0.out) (sc_one _) (by omega)).mono ?_
  rintro e w1 ⟨v1, rfl, hv1, hb1, _⟩
  obtain ⟨A1, c1, rfl, _⟩ := hv1.slice_
  have HV1 := Lib.hid hv1
  have HB1 := Lib.hid ((HB0.out).trans (hb1.mono (HB0.out).size))
  have hz := hb1.size
  have hz2 := HS0.out
  try simp only [World.size_setCell, World.size_drew] at hz
  have HS1 : Hid (w.heap.size + 2 ≤ w1.heap.size) := by show _ ≤ _; omega
  have hrow1 : w1.heap[w.heap.size]? = some (.cells #[.int .i64 p.kind, .slice Ak p.keys.length ck, .slice Av p.vals.length cv, .slice An p.kids.length cn, .int .i64 0, .int .i64 0, .int .i64 0, .int .i64 0] 26 (0, 0)) := (hb1.block w.heap.size (by (try simp only [World.size_setCell, World.size_drew]); omega)).trans (HR1.out W0 (Below.refl _ _))
  have hrz1 : w1.heap[w.heap.size + 1]? = some (.cells #[.int .i64 0, .slice none 0 0, .slice none 0 0, .slice none 0 0, .int .i64 0, .int .i64 0, .int .i64 0, .int .i64 0] 26 (0, 0)) := (hb1.block (w.heap.size + 1) (by (try simp only [World.size_setCell, World.size_drew]); omega)).trans (HR2.out W0 (Below.refl _ _))
  have HROW1 := Lib.hid hrow1
  have HRZ1 := Lib.hid hrz1
  have HLO1 := Lib.hid (fun g hg => (hv1.lt g hg).1)
  have HBB1 := Lib.hid hb1
  clear hv1 hb1 hz hz2 hrow1 hrz1
  dsimp only
  refine hK.out _ _ (fun _ => HROW1.out) ?_
  clear hK K
  try simp only [Act.put, List.setIfInBounds_toArray, List.set_cons_zero, List.set_cons_succ]
  refine Held.Ways.take (i := 9) (oi := ?o7) ?v7 ?hi7 ?hs7 ?hf7 ?hlw7 ?hr7 ?hQ7 HROW1.out ?hy7 ?rest7
  case hi7 => exact rfl
  case hs7 => kernel_rfl
  case hf7 => kernel_rfl
  case hlw7 => kernel_rfl
  case hr7 => kernel_rfl
  case hQ7 => exact fun _ _ _ h => h
  case hy7 =>
    refine .inl ⟨by rfl, fun W hW => ?_⟩
    obtain ⟨f0, f1, f2, f3, f4, f5, f6, f7, f8⟩ := row8_facts hW
    go_simp
    try with_reducible rfl
  try simp only [Act.put, List.setIfInBounds_toArray, List.set_cons_zero, List.set_cons_succ]
  refine Held.Ways.one (i := 5) (by rfl) (by kernel_rfl) (fun K hK => ?_)
  go_simp
  go_at_call 21
  refine (SlS.clone (n := p.vals.length) (xs := sc p.vals) _ (HV.out _ HB1.out) (sc_one _) (by omega)).mono ?_
  rintro e w2 ⟨v2, rfl, hv2, hb2, _⟩
  obtain ⟨A2, c2, rfl, _⟩ := hv2.slice_
  have HV2 := Lib.hid hv2
  have HB2 := Lib.hid ((HB1.out).trans (hb2.mono (HB1.out).size))
  have hz := hb2.size
  have hz2 := HS1.out
  try simp only [World.size_setCell, World.size_drew] at hz
  have HS2 : Hid (w.heap.size + 2 ≤ w2.heap.size) := by show _ ≤ _; omega
  have hrow2 : w2.heap[w.heap.size]? = some (.cells #[.int .i64 p.kind, .slice Ak p.keys.length ck, .slice Av p.vals.length cv, .slice An p.kids.length cn, .int .i64 0, .int .i64 0, .int .i64 0, .int .i64 0] 26 (0, 0)) := (hb2.block w.heap.size (by (try simp only [World.size_setCell, World.size_drew]); omega)).trans HROW1.out
  have hrz2 : w2.heap[w.heap.size + 1]? = some (.cells #[.int .i64 0, .slice none 0 0, .slice none 0 0, .slice none 0 0, .int .i64 0, .int .i64 0, .int .i64 0, .int .i64 0] 26 (0, 0)) := (hb2.block (w.heap.size + 1) (by (try simp only [World.size_setCell, World.size_drew]); omega)).trans HRZ1.out
  have HROW2 := Lib.hid hrow2
  have HRZ2 := Lib.hid hrz2
  have HLO2 := Lib.hid (fun g hg => (hv2.lt g hg).1)
  have HBB2 := Lib.hid hb2
  clear hv2 hb2 hz hz2 hrow2 hrz2
  dsimp only
  refine hK.out _ _ (fun _ => HROW2.out) ?_
  clear hK K
  try simp only [Act.put, List.setIfInBounds_toArray, List.set_cons_zero, List.set_cons_succ]
  refine Held.Ways.one (i := 8) (by rfl) (by kernel_rfl) (fun K hK => ?_)
  go_simp
  go_at_call 22
  refine (SlI.clone (n := p.kids.length) (xs := ic p.kids) _ (HN.out _ HB2.out) (ic_one _) (by omega)).mono ?_
  rintro e w3 ⟨v3, rfl, hv3, hb3, _⟩
  obtain ⟨A3, c3, rfl, _⟩ := hv3.slice_
  have HV3 := Lib.hid hv3
  have HB3 := Lib.hid ((HB2.out).trans (hb3.mono (HB2.out).size))
  have hz := hb3.size
  have hz2 := HS2.out
  try simp only [World.size_setCell, World.size_drew] at hz
  have HS3 : Hid (w.heap.size + 2 ≤ w3.heap.size) := by show _ ≤ _; omega
  have hrow3 : w3.heap[w.heap.size]? = some (.cells #[.int .i64 p.kind, .slice Ak p.keys.length ck, .slice Av p.vals.length cv, .slice An p.kids.length cn, .int .i64 0, .int .i64 0, .int .i64 0, .int .i64 0] 26 (0, 0)) := (hb3.block w.heap.size (by (try simp only [World.size_setCell, World.size_drew]); omega)).trans HROW2.out
  have hrz3 : w3.heap[w.heap.size + 1]? = some (.cells #[.int .i64 0, .slice none 0 0, .slice none 0 0, .slice none 0 0, .int .i64 0, .int .i64 0, .int .i64 0, .int .i64 0] 26 (0, 0)) := (hb3.block (w.heap.size + 1) (by (try simp only [World.size_setCell, World.size_drew]); omega)).trans HRZ2.out
  have HROW3 := Lib.hid hrow3
  have HRZ3 := Lib.hid hrz3
  have HLO3 := Lib.hid (fun g hg => (hv3.lt g hg).1)
  have HBB3 := Lib.hid hb3
  clear hv3 hb3 hz hz2 hrow3 hrz3
  dsimp only
  refine hK.out _ _ (fun _ => HROW3.out) ?_
  clear hK K
  try simp only [Act.put, List.setIfInBounds_toArray, List.set_cons_zero, List.set_cons_succ]
  clear f0 f1 f2 f3 f4 f5 f6 f7 f8
  obtain ⟨f0, f1, f2, f3, f4, f5, f6, f7, f8⟩ := row8_facts HROW3.out
  refine Held.Ways.one (i := 10) (by rfl) (by kernel_rfl) (fun K hK => ?_)
  go_simp
  refine hK.out _ _ (fun h => absurd h (by decide)) ?_
  clear hK K
  try simp only [Act.put, List.setIfInBounds_toArray, List.set_cons_zero, List.set_cons_succ]
  refine Held.Ways.one (i := 11) (by rfl) (by kernel_rfl) (fun K hK => ?_)
  go_simp
  refine hK.out _ _ (fun h => absurd h (by decide)) ?_
  clear hK K
  try simp only [Act.put, List.setIfInBounds_toArray, List.set_cons_zero, List.set_cons_succ]
  refine Held.Ways.one (i := 12) (by rfl) (by kernel_rfl) (fun K hK => ?_)
  go_simp
  refine hK.out _ _ (fun h => absurd h (by decide)) ?_
  clear hK K
  try simp only [Act.put, List.setIfInBounds_toArray, List.set_cons_zero, List.set_cons_succ]
  refine Held.Ways.one (i := 13) (by rfl) (by kernel_rfl) (fun K hK => ?_)
  go_simp
  refine hK.out _ _ (fun h => absurd h (by decide)) ?_
  clear hK K
  try simp only [Act.put, List.setIfInBounds_toArray, List.set_cons_zero, List.set_cons_succ]
  refine Held.Ways.one (i := 14) (by rfl) (by kernel_rfl) (fun K hK => ?_)
  go_simp
  refine hK.out _ _ (fun h => absurd h (by decide)) ?_
  clear hK K
  try simp only [Act.put, List.setIfInBounds_toArray, List.set_cons_zero, List.set_cons_succ]
  refine Held.Ways.done (by kernel_rfl) ?_ _
  obtain ⟨g0, g1, g2, g3, g4, g5, g6, g7, g8⟩ := row8_facts HRZ3.out
  go_wp2_with fail
  refine bodyPost_ret (results_cell_row rfl _ _ (w.heap.size + 1) 26 _ (0, 0) _ rfl (row8_set ((Below.heap_setCell _ _ _ _ (by show w.heap.size + 1 ≠ w.heap.size; omega)).trans ((Below.heap_setCell _ _ _ _ (by show w.heap.size + 1 ≠ w.heap.size; omega)).trans ((Below.heap_setCell _ _ _ _ (by show w.heap.size + 1 ≠ w.heap.size; omega)).trans HRZ3.out))) _ _ _ _ _ _ _ _) Try.underlying26 rfl rfl) rfl ?_
  have hz0 : W0.drew.heap.size = w.heap.size + 2 := HS0.out
  have hfin : ∀ g, w.heap.size + 2 ≤ g → ((((((((((((w3.setCell ⟨w.heap.size, 1, none⟩ (.slice A1 p.keys.length c1)).setCell ⟨w.heap.size, 2, none⟩ (.slice A2 p.vals.length c2)).setCell ⟨w.heap.size, 3, none⟩ (.slice A3 p.kids.length c3)).setCell ⟨w.heap.size + 1, 0, none⟩ (.int .i64 p.kind)).setCell ⟨w.heap.size + 1, 1, none⟩ (.slice A1 p.keys.length c1)).setCell ⟨w.heap.size + 1, 2, none⟩ (.slice A2 p.vals.length c2)).setCell ⟨w.heap.size + 1, 3, none⟩ (.slice A3 p.kids.length c3)).setCell ⟨w.heap.size + 1, 4, none⟩ (.int .i64 0)).setCell ⟨w.heap.size + 1, 5, none⟩ (.int .i64 0)).setCell ⟨w.heap.size + 1, 6, none⟩ (.int .i64 0)).setCell ⟨w.heap.size + 1, 7, none⟩ (.int .i64 0))).heap[g]? = w3.heap[g]? := fun g hg => by
    have n1 : g ≠ w.heap.size := by omega
    have n2 : g ≠ w.heap.size + 1 := by omega
    refine Eq.trans (Below.heap_setCell _ _ _ _ n2) (Eq.trans (Below.heap_setCell _ _ _ _ n2) (Eq.trans (Below.heap_setCell _ _ _ _ n2) (Eq.trans (Below.heap_setCell _ _ _ _ n2) ?_)))
    refine Eq.trans (Below.heap_setCell _ _ _ _ n2) (Eq.trans (Below.heap_setCell _ _ _ _ n2) (Eq.trans (Below.heap_setCell _ _ _ _ n2) (Eq.trans (Below.heap_setCell _ _ _ _ n2) ?_)))
    exact Eq.trans (Below.heap_setCell _ _ _ _ n1) (Eq.trans (Below.heap_setCell _ _ _ _ n1) (Below.heap_setCell _ _ _ _ n1))
  refine ⟨_, _, _, rfl, ⟨?_, ?_, ?_, ⟨l1, l2, l3⟩, ?_⟩, ?_⟩
  · have h1 := ((HV1.out.below HBB2.out).below HBB3.out).base_ (base' := w.heap.size) (fun g hg => by have := HLO1.out g hg; omega)
    exact h1.kept fun g hg => hfin g (by have := HLO1.out g hg; omega)
  · have h1 := (HV2.out.below HBB3.out).base_ (base' := w.heap.size) (fun g hg => by have := HLO2.out g hg; have := HS1.out; omega)
    exact h1.kept fun g hg => hfin g (by have := HLO2.out g hg; have := HS1.out; omega)
  · have h1 := HV3.out.base_ (base' := w.heap.size) (fun g hg => by have := HLO3.out g hg; have := HS2.out; omega)
    exact h1.kept fun g hg => hfin g (by have := HLO3.out g hg; have := HS2.out; omega)
  · intro g hg hg'
    have := (HV1.out.lt g hg).2
    have := HLO2.out g hg'
    omega
  · refine below_set (below_set (below_set (below_set ?_ (Nat.le_succ _) _) (Nat.le_succ _) _) (Nat.le_succ _) _) (Nat.le_succ _) _
    refine below_set (below_set (below_set (below_set ?_ (Nat.le_succ _) _) (Nat.le_succ _) _) (Nat.le_succ _) _) (Nat.le_succ _) _
    exact below_set (below_set (below_set HB3.out (Nat.le_refl _) _) (Nat.le_refl _) _) (Nat.le_refl _) _
end Go.Proofs.Ytfhpgmgmofganaa.NodeA
