/- The maker's call and said, where the head's example meets them. -/
import Derived.Test.YthkacajlbenflaaHistA
import Derived.Test.YthkacajlbenflaaMapS
import Derived.DeepKeys4
import Derived.Test.YthkacajlbenflaaHeld3
import Derived.Deep.Cut
import Derived.Deep.CutRange
set_option linter.unusedVariables false
set_option linter.unusedSimpArgs false
set_option linter.unusedSectionVars false
namespace Go.Proofs.Ythkacajlbenflaa.HistA
open Go.RowKit Go.WideShapes Go.Deep Go.Proofs.Ythkacajlbenflaa.Mem Go.Proofs.Ythkacajlbenflaa.Maps Go.Proofs.Ythkacajlbenflaa.Kv
theorem laidOut : laidOutB Try.prog = true := by kernel_rfl
def encP (p : Int × Int) : Value := .agg #[.int .i64 p.1, .int .i64 p.2]
def encT (p : Int × Int) : Value := .agg #[.int .u64 p.1, .int .i64 p.2]
def encB (g : Nat) : Value := .pointer (some ⟨g, 0, none⟩)
def encN (n : Nat) : Value := .int .i64 n
theorem km_place : Km Try.prog 71 encP (fun p => p = (0, 1)) :=
  ⟨Maps.Keyed.of_law (deep_law_laid laidOut (m := 2) (by omega) (of_decide_eq_true (by kernel_rfl)) (by kernel_rfl) (by kernel_rfl)), fun x hx => by subst hx; exact Option.isSome_iff_exists.1 (by kernel_rfl), fun x y e => by
    obtain ⟨a, b⟩ := x
    obtain ⟨c, d⟩ := y
    simp [encP] at e
    obtain ⟨rfl, rfl⟩ := e
    rfl⟩
theorem km_tid : Km Try.prog 30 encT (fun p => p = (7, 0)) :=
  ⟨Maps.Keyed.of_law (deep_law_laid laidOut (m := 2) (by omega) (of_decide_eq_true (by kernel_rfl)) (by kernel_rfl) (by kernel_rfl)), fun x hx => by subst hx; exact Option.isSome_iff_exists.1 (by kernel_rfl), fun x y e => by
    obtain ⟨a, b⟩ := x
    obtain ⟨c, d⟩ := y
    simp [encT] at e
    obtain ⟨rfl, rfl⟩ := e
    rfl⟩
/-- The maker's variable. -/
def MkAt (w : World) (gm : Nat) (av : Value) (ba bs : Nat) : Prop := w.heap[gm]? = some (.cells #[av, .map (some ba), .map (some bs)] 67 (0, 0))
def SessAt (w : World) (bs : Nat) (ms : List ((Int × Int) × Nat)) : Prop := MapAt encP encB (fun p => p = (0, 1)) w bs ms
def AtAt (w : World) (ba : Nat) (ms : List ((Int × Int) × Nat)) : Prop := MapAt encT encN (fun p => p = (7, 0)) w ba ms
theorem row3_facts {w : World} {g : Nat} {a b c : Value} {t : TypeId} (hr : w.heap[g]? = some (.cells #[a, b, c] t (0, 0))) : w.cell? ⟨g, 0, none⟩ = some a ∧ w.cell? ⟨g, 1, none⟩ = some b ∧ w.cell? ⟨g, 2, none⟩ = some c ∧ ∀ j, w.frozen? ⟨g, j, none⟩ = false :=
  ⟨by rw [cell_of_row _ _ _ _ _ _ hr]; rfl, by rw [cell_of_row _ _ _ _ _ _ hr]; rfl, by rw [cell_of_row _ _ _ _ _ _ hr]; rfl, fun j => by unfold World.frozen?; rw [hr]; rfl⟩
theorem row2c {w : World} {g : Nat} {a b : Value} {t : TypeId} (hr : w.heap[g]? = some (.cells #[a, b] t (0, 0))) : w.cell? ⟨g, 0, none⟩ = some a ∧ w.cell? ⟨g, 1, none⟩ = some b :=
  ⟨by rw [cell_of_row _ _ _ _ _ _ hr]; rfl, by rw [cell_of_row _ _ _ _ _ _ hr]; rfl⟩
theorem row5_facts {w : World} {g : Nat} {a b c d e : Value} {t : TypeId} (hr : w.heap[g]? = some (.cells #[a, b, c, d, e] t (0, 0))) : w.cell? ⟨g, 0, none⟩ = some a ∧ w.cell? ⟨g, 1, none⟩ = some b ∧ w.cell? ⟨g, 2, none⟩ = some c ∧ w.cell? ⟨g, 3, none⟩ = some d ∧ w.cell? ⟨g, 4, none⟩ = some e :=
  ⟨by rw [cell_of_row _ _ _ _ _ _ hr]; rfl, by rw [cell_of_row _ _ _ _ _ _ hr]; rfl, by rw [cell_of_row _ _ _ _ _ _ hr]; rfl, by rw [cell_of_row _ _ _ _ _ _ hr]; rfl, by rw [cell_of_row _ _ _ _ _ _ hr]; rfl⟩
theorem below_same {B : Nat} {w X W : World} (h : Below B w X) (hh : W.heap = X.heap) (ho : W.os = X.os) (ht : W.tape = X.tape) (hp : W.output = X.output) : Below B w W :=
  ⟨ho.trans h.os, ht.trans h.tape, hp.trans h.output, by rw [hh]; exact h.size, fun i hi => by rw [hh]; exact h.block i hi⟩
set_option maxHeartbeats 2000000 in
set_option maxRecDepth 100000 in
theorem call_new {gm ba bs : Nat} {av : Value} (w : World) (hav : ∃ A n c, av = .slice A n c) (hm : MkAt w gm av ba bs) (hs : SessAt w bs []) (kind : Int) (k v : S) :
    Calls Try.prog 23 #[.pointer (some ⟨gm, 0, none⟩), .agg #[.int .i64 0, .int .i64 1], .agg #[.int .i64 1, .int .i64 1, .int .i64 kind, .string k, .string v]] w fun e w' => e = .returned (.tuple #[]) ∧ ∃ gs, w.heap.size ≤ gs ∧
      w'.heap[gs]? = some (.cells #[.int .i64 1, .int .i64 1, .int .i64 kind, .string k, .string v, .bool true, .int .u64 0, .int .i64 0, .bool false] 84 (0, 0)) ∧ SessAt w' bs [((0, 1), gs)] ∧ Fr (fun g => g = bs) w w' := by
  obtain ⟨A, n, c, rfl⟩ := hav
  have HM := Lib.hid hm
  have HS := Lib.hid hs
  clear hm hs
  go_enter Try.func23, Try.ntmps23
  go_upto_region 1 with fail
  obtain ⟨X, hX⟩ : ∃ X, X = (w.alloc (.cells #[.int .i64 0, .int .i64 1] 71)).alloc (.cells #[.int .i64 1, .int .i64 1, .int .i64 kind, .string k, .string v] 26) := ⟨_, rfl⟩
  rw [← hX]
  have HXF : Hid (Below w.heap.size w X) := by rw [hX]; exact ((Below.refl _ _).alloc (Nat.le_refl _) _).alloc (by simp) _
  have HXZ : Hid (X.heap.size = w.heap.size + 2) := by rw [hX]; exact Lib.hid (by simp)
  have HXP : Hid (X.heap[w.heap.size]? = some (.cells #[.int .i64 0, .int .i64 1] 71 (0, 0))) := by rw [hX, Below.heap_alloc _ _ _ (by simp)]; exact heap_alloc_new w _
  have HXC : Hid (X.heap[w.heap.size + 1]? = some (.cells #[.int .i64 1, .int .i64 1, .int .i64 kind, .string k, .string v] 26 (0, 0))) := by
    rw [hX]
    have h9 := heap_alloc_new (w.alloc (.cells #[.int .i64 0, .int .i64 1] 71)) (.cells #[.int .i64 1, .int .i64 1, .int .i64 kind, .string k, .string v] 26)
    rw [World.size_alloc] at h9
    exact h9
  have HXM : Hid (X.heap[gm]? = some (.cells #[.slice A n c, .map (some ba), .map (some bs)] 67 (0, 0))) := Lib.hid ((HXF.out.block _ (Array.getElem?_eq_some_iff.1 HM.out).1).trans HM.out)
  have HXS : Hid (SessAt X bs []) := Lib.hid (MapAt.below HS.out HXF.out)
  clear hX
  go_cut [6] from 6 to 14 (fun s6 wx => s6 = .pointer none ∧ wx.heap = X.heap ∧ wx.os = X.os ∧ wx.tape = X.tape ∧ wx.output = X.output)
  case first =>
    obtain ⟨D, hD⟩ : ∃ D, D = X.drew := ⟨_, rfl⟩
    have hDh : D.heap = X.heap := by rw [hD]; rfl
    have hDo : D.os = X.os := by rw [hD]; rfl
    have hDt : D.tape = X.tape := by rw [hD]; rfl
    have hDp : D.output = X.output := by rw [hD]; rfl
    refine Held3.ways_start (fun _ W W' => W.heap = D.heap → W'.heap = D.heap) (by kernel_rfl) ?_
    rw [← hD]
    clear hD
    refine Held3.Ways.plain (i := 0) (oi := ?oy28) ?vy28 ?hiy28 ?hsy28 ?hfy28 ?hry28 ?hQy28 ?hyy28 (fun _ _ => id) ?resty28
    case hiy28 => exact rfl
    case hsy28 => kernel_rfl
    case hfy28 => kernel_rfl
    case hry28 => kernel_rfl
    case hQy28 => exact fun _ _ _ h => h
    case hyy28 =>
      refine .inl ⟨by rfl, fun W _ => ?_⟩
      go_simp
      try with_reducible rfl
    try simp only [Act.put, List.setIfInBounds_toArray, List.set_cons_zero, List.set_cons_succ]
    refine Held3.Ways.plain (i := 1) (oi := ?oy29) ?vy29 ?hiy29 ?hsy29 ?hfy29 ?hry29 ?hQy29 ?hyy29 (fun _ _ => id) ?resty29
    case hiy29 => exact rfl
    case hsy29 => kernel_rfl
    case hfy29 => kernel_rfl
    case hry29 => kernel_rfl
    case hQy29 => exact fun _ _ _ h => h
    case hyy29 =>
      refine .inl ⟨by rfl, fun W _ => ?_⟩
      go_simp
      try with_reducible rfl
    try simp only [Act.put, List.setIfInBounds_toArray, List.set_cons_zero, List.set_cons_succ]
    refine Held3.Ways.plain (i := 2) (oi := ?oy210) ?vy210 ?hiy210 ?hsy210 ?hfy210 ?hry210 ?hQy210 ?hyy210 (fun _ _ => id) ?resty210
    case hiy210 => exact rfl
    case hsy210 => kernel_rfl
    case hfy210 => kernel_rfl
    case hry210 => kernel_rfl
    case hQy210 => exact fun _ _ _ h => h
    case hyy210 =>
      refine .inl ⟨by rfl, fun W _ => ?_⟩
      go_simp
      try with_reducible rfl
    try simp only [Act.put, List.setIfInBounds_toArray, List.set_cons_zero, List.set_cons_succ]
    refine Held3.Ways.take (i := 3) (oi := ?oy211) (fun W : World => W.heap = D.heap) (fun _ => true) ?vy211 ?hiy211 ?hsy211 ?hfy211 ?hlwy211 ?hry211 ?hQy211 rfl ?hyy211 (fun _ _ _ h _ => h) (fun _ _ => id) ?resty211
    case hiy211 => exact rfl
    case hsy211 => kernel_rfl
    case hfy211 => kernel_rfl
    case hlwy211 => kernel_rfl
    case hry211 => kernel_rfl
    case hQy211 => exact fun _ _ _ h => h
    case hyy211 =>
      refine .inl ⟨by rfl, fun W hW => ?_⟩
      obtain ⟨f0, f1, f2, f3⟩ := row3_facts (show W.heap[gm]? = _ by rw [hW, hDh]; exact HXM.out)
      have p0 : W.cell? ⟨w.heap.size, 0, none⟩ = some (.int .i64 0) := by rw [cell_of_row _ _ _ _ _ _ (show W.heap[w.heap.size]? = _ by rw [hW, hDh]; exact HXP.out)]; rfl
      have p1 : W.cell? ⟨w.heap.size, 1, none⟩ = some (.int .i64 1) := by rw [cell_of_row _ _ _ _ _ _ (show W.heap[w.heap.size]? = _ by rw [hW, hDh]; exact HXP.out)]; rfl
      have hlk := run_lookup (P := Try.prog) (t := 65) (e := 82) (z := .pointer none) km_place Try.underlying65 (by kernel_rfl) (MapAt.kept HXS.out (show W.heap[bs]? = X.heap[bs]? by rw [hW, hDh])) (x := (0, 1)) rfl false
      simp only [encP] at hlk
      go_simp
      try with_reducible rfl
    try simp only [Act.put, List.setIfInBounds_toArray, List.set_cons_zero, List.set_cons_succ]
    refine Held3.Ways.take (i := 4) (oi := ?oy212) (fun W : World => W.heap = D.heap) (fun _ => true) ?vy212 ?hiy212 ?hsy212 ?hfy212 ?hlwy212 ?hry212 ?hQy212 rfl ?hyy212 (fun _ _ _ h _ => h) (fun _ _ => id) ?resty212
    case hiy212 => exact rfl
    case hsy212 => kernel_rfl
    case hfy212 => kernel_rfl
    case hlwy212 => kernel_rfl
    case hry212 => kernel_rfl
    case hQy212 => exact fun _ _ _ h => h
    case hyy212 =>
      refine .inl ⟨by rfl, fun W hW => ?_⟩
      obtain ⟨f0, f1, f2, f3⟩ := row3_facts (show W.heap[gm]? = _ by rw [hW, hDh]; exact HXM.out)
      have p0 : W.cell? ⟨w.heap.size, 0, none⟩ = some (.int .i64 0) := by rw [cell_of_row _ _ _ _ _ _ (show W.heap[w.heap.size]? = _ by rw [hW, hDh]; exact HXP.out)]; rfl
      have p1 : W.cell? ⟨w.heap.size, 1, none⟩ = some (.int .i64 1) := by rw [cell_of_row _ _ _ _ _ _ (show W.heap[w.heap.size]? = _ by rw [hW, hDh]; exact HXP.out)]; rfl
      have hlk := run_lookup (P := Try.prog) (t := 65) (e := 82) (z := .pointer none) km_place Try.underlying65 (by kernel_rfl) (MapAt.kept HXS.out (show W.heap[bs]? = X.heap[bs]? by rw [hW, hDh])) (x := (0, 1)) rfl false
      simp only [encP] at hlk
      go_simp
      try with_reducible rfl
    try simp only [Act.put, List.setIfInBounds_toArray, List.set_cons_zero, List.set_cons_succ]
    refine Held3.Ways.take (i := 5) (oi := ?oy213) (fun W : World => W.heap = D.heap) (fun _ => true) ?vy213 ?hiy213 ?hsy213 ?hfy213 ?hlwy213 ?hry213 ?hQy213 rfl ?hyy213 (fun _ _ _ h _ => h) (fun _ _ => id) ?resty213
    case hiy213 => exact rfl
    case hsy213 => kernel_rfl
    case hfy213 => kernel_rfl
    case hlwy213 => kernel_rfl
    case hry213 => kernel_rfl
    case hQy213 => exact fun _ _ _ h => h
    case hyy213 =>
      refine .inl ⟨by rfl, fun W hW => ?_⟩
      obtain ⟨f0, f1, f2, f3⟩ := row3_facts (show W.heap[gm]? = _ by rw [hW, hDh]; exact HXM.out)
      have p0 : W.cell? ⟨w.heap.size, 0, none⟩ = some (.int .i64 0) := by rw [cell_of_row _ _ _ _ _ _ (show W.heap[w.heap.size]? = _ by rw [hW, hDh]; exact HXP.out)]; rfl
      have p1 : W.cell? ⟨w.heap.size, 1, none⟩ = some (.int .i64 1) := by rw [cell_of_row _ _ _ _ _ _ (show W.heap[w.heap.size]? = _ by rw [hW, hDh]; exact HXP.out)]; rfl
      have hlk := run_lookup (P := Try.prog) (t := 65) (e := 82) (z := .pointer none) km_place Try.underlying65 (by kernel_rfl) (MapAt.kept HXS.out (show W.heap[bs]? = X.heap[bs]? by rw [hW, hDh])) (x := (0, 1)) rfl false
      simp only [encP] at hlk
      go_simp
      try with_reducible rfl
    try simp only [Act.put, List.setIfInBounds_toArray, List.set_cons_zero, List.set_cons_succ]
    refine Held3.Ways.plain (i := 6) (oi := ?oy214) ?vy214 ?hiy214 ?hsy214 ?hfy214 ?hry214 ?hQy214 ?hyy214 (fun _ _ => id) ?resty214
    case hiy214 => exact rfl
    case hsy214 => kernel_rfl
    case hfy214 => kernel_rfl
    case hry214 => kernel_rfl
    case hQy214 => exact fun _ _ _ h => h
    case hyy214 =>
      refine .inl ⟨by rfl, fun W _ => ?_⟩
      go_simp
      try with_reducible rfl
    try simp only [Act.put, List.setIfInBounds_toArray, List.set_cons_zero, List.set_cons_succ]
    refine Held3.Ways.done (by kernel_rfl) ?_ _
    go_wp2_with fail
    go_meet
    case rel => exact ⟨rfl, hDh, hDo, hDt, hDp⟩
  case rest =>
    obtain ⟨rfl, hh, ho, ht, hp⟩ := hcut
    have HYF : Hid (Below w.heap.size w wc) := Lib.hid (below_same HXF.out hh ho ht hp)
    have HYZ : Hid (wc.heap.size = w.heap.size + 2) := by rw [hh]; exact HXZ
    have HYP : Hid (wc.heap[w.heap.size]? = some (.cells #[.int .i64 0, .int .i64 1] 71 (0, 0))) := by rw [hh]; exact HXP
    have HYC : Hid (wc.heap[w.heap.size + 1]? = some (.cells #[.int .i64 1, .int .i64 1, .int .i64 kind, .string k, .string v] 26 (0, 0))) := by rw [hh]; exact HXC
    have HYM : Hid (wc.heap[gm]? = some (.cells #[.slice A n c, .map (some ba), .map (some bs)] 67 (0, 0))) := by rw [hh]; exact HXM
    have HYS : Hid (SessAt wc bs []) := Lib.hid (MapAt.kept HXS.out (by rw [hh]))
    clear hh ho ht hp HXF HXZ HXP HXC HXM HXS X
    obtain ⟨c0, c1, c2, c3, c4⟩ := row5_facts HYC.out
    go_upto_region 7 with fail
    obtain ⟨D, hD⟩ : ∃ D, D = wc.drew := ⟨_, rfl⟩
    have hDh : D.heap = wc.heap := by rw [hD]; rfl
    have hDo : D.os = wc.os := by rw [hD]; rfl
    have hDt : D.tape = wc.tape := by rw [hD]; rfl
    have hDp : D.output = wc.output := by rw [hD]; rfl
    refine Held3.ways_start (fun j W W' => j ≠ 8 → Below D.heap.size D W → Below D.heap.size D W') (by kernel_rfl) ?_
    rw [← hD]
    clear hD
    have HDM : Hid (∀ W, Below D.heap.size D W → W.heap[gm]? = some (.cells #[.slice A n c, .map (some ba), .map (some bs)] 67 (0, 0))) := fun W hb => (hb.block _ (by rw [hDh]; exact (Array.getElem?_eq_some_iff.1 HYM.out).1)).trans (by rw [hDh]; exact HYM.out)
    have HDP : Hid (∀ W, Below D.heap.size D W → W.heap[w.heap.size]? = some (.cells #[.int .i64 0, .int .i64 1] 71 (0, 0))) := fun W hb => (hb.block _ (by rw [hDh]; exact (Array.getElem?_eq_some_iff.1 HYP.out).1)).trans (by rw [hDh]; exact HYP.out)
    have HDC : Hid (∀ W, Below D.heap.size D W → W.heap[w.heap.size + 1]? = some (.cells #[.int .i64 1, .int .i64 1, .int .i64 kind, .string k, .string v] 26 (0, 0))) := fun W hb => (hb.block _ (by rw [hDh]; exact (Array.getElem?_eq_some_iff.1 HYC.out).1)).trans (by rw [hDh]; exact HYC.out)
    have HDS : Hid (SessAt D bs []) := Lib.hid (MapAt.kept HYS.out (by rw [hDh]))
    have HDZ : Hid (D.heap.size = w.heap.size + 2) := by rw [hDh]; exact HYZ
    have HDF : Hid (Below w.heap.size w D) := Lib.hid (below_same HYF.out hDh hDo hDt hDp)
    clear c0 c1 c2 c3 c4 HYF HYZ HYP HYC HYM HYS hDh hDo hDt hDp
    refine Held3.Ways.plain (i := 0) (oi := ?oy11) ?vy11 ?hiy11 ?hsy11 ?hfy11 ?hry11 ?hQy11 ?hyy11 (fun _ _ _ h => h) ?resty11
    case hiy11 => exact rfl
    case hsy11 => kernel_rfl
    case hfy11 => kernel_rfl
    case hry11 => kernel_rfl
    case hQy11 => exact fun _ _ _ h => h
    case hyy11 =>
      refine .inl ⟨by rfl, fun W _ => ?_⟩
      go_simp
      try with_reducible rfl
    try simp only [Act.put, List.setIfInBounds_toArray, List.set_cons_zero, List.set_cons_succ]
    refine Held3.Ways.plain (i := 1) (oi := ?oy12) ?vy12 ?hiy12 ?hsy12 ?hfy12 ?hry12 ?hQy12 ?hyy12 (fun _ _ _ h => h) ?resty12
    case hiy12 => exact rfl
    case hsy12 => kernel_rfl
    case hfy12 => kernel_rfl
    case hry12 => kernel_rfl
    case hQy12 => exact fun _ _ _ h => h
    case hyy12 =>
      refine .inl ⟨by rfl, fun W _ => ?_⟩
      go_simp
      try with_reducible rfl
    try simp only [Act.put, List.setIfInBounds_toArray, List.set_cons_zero, List.set_cons_succ]
    refine Held3.Ways.plain (i := 2) (oi := ?oy13) ?vy13 ?hiy13 ?hsy13 ?hfy13 ?hry13 ?hQy13 ?hyy13 (fun _ _ _ h => h) ?resty13
    case hiy13 => exact rfl
    case hsy13 => kernel_rfl
    case hfy13 => kernel_rfl
    case hry13 => kernel_rfl
    case hQy13 => exact fun _ _ _ h => h
    case hyy13 =>
      refine .inl ⟨by rfl, fun W _ => ?_⟩
      go_simp
      try with_reducible rfl
    try simp only [Act.put, List.setIfInBounds_toArray, List.set_cons_zero, List.set_cons_succ]
    refine Held3.Ways.take (i := 3) (oi := ?oy14) (fun W : World => Below D.heap.size D W) (fun j => j != 8) ?vy14 ?hiy14 ?hsy14 ?hfy14 ?hlwy14 ?hry14 ?hQy14 (Below.refl _ _) ?hyy14 (fun j W W' (h : j ≠ 8 → Below D.heap.size D W → Below D.heap.size D W') e hs => h (by simpa using e) hs) (fun _ _ _ h => h) ?resty14
    case hiy14 => exact rfl
    case hsy14 => kernel_rfl
    case hfy14 => kernel_rfl
    case hlwy14 => kernel_rfl
    case hry14 => kernel_rfl
    case hQy14 => exact fun _ _ _ h => h
    case hyy14 =>
      refine .inl ⟨by rfl, fun W hW => ?_⟩
      obtain ⟨f0, f1, f2, f3⟩ := row3_facts (show W.heap[gm]? = _ from HDM.out W hW)
      obtain ⟨p0, p1⟩ := row2c (show W.heap[w.heap.size]? = _ from HDP.out W hW)
      obtain ⟨c0, c1, c2, c3, c4⟩ := row5_facts (show W.heap[w.heap.size + 1]? = _ from HDC.out W hW)
      go_simp
      try with_reducible rfl
    try simp only [Act.put, List.setIfInBounds_toArray, List.set_cons_zero, List.set_cons_succ]
    refine Held3.Ways.take (i := 4) (oi := ?oy15) (fun W : World => Below D.heap.size D W) (fun j => j != 8) ?vy15 ?hiy15 ?hsy15 ?hfy15 ?hlwy15 ?hry15 ?hQy15 (Below.refl _ _) ?hyy15 (fun j W W' (h : j ≠ 8 → Below D.heap.size D W → Below D.heap.size D W') e hs => h (by simpa using e) hs) (fun _ _ _ h => h) ?resty15
    case hiy15 => exact rfl
    case hsy15 => kernel_rfl
    case hfy15 => kernel_rfl
    case hlwy15 => kernel_rfl
    case hry15 => kernel_rfl
    case hQy15 => exact fun _ _ _ h => h
    case hyy15 =>
      refine .inl ⟨by rfl, fun W hW => ?_⟩
      obtain ⟨f0, f1, f2, f3⟩ := row3_facts (show W.heap[gm]? = _ from HDM.out W hW)
      obtain ⟨p0, p1⟩ := row2c (show W.heap[w.heap.size]? = _ from HDP.out W hW)
      obtain ⟨c0, c1, c2, c3, c4⟩ := row5_facts (show W.heap[w.heap.size + 1]? = _ from HDC.out W hW)
      go_simp
      try with_reducible rfl
    try simp only [Act.put, List.setIfInBounds_toArray, List.set_cons_zero, List.set_cons_succ]
    refine Held3.Ways.take (i := 5) (oi := ?oy16) (fun W : World => Below D.heap.size D W) (fun j => j != 8) ?vy16 ?hiy16 ?hsy16 ?hfy16 ?hlwy16 ?hry16 ?hQy16 (Below.refl _ _) ?hyy16 (fun j W W' (h : j ≠ 8 → Below D.heap.size D W → Below D.heap.size D W') e hs => h (by simpa using e) hs) (fun _ _ _ h => h) ?resty16
    case hiy16 => exact rfl
    case hsy16 => kernel_rfl
    case hfy16 => kernel_rfl
    case hlwy16 => kernel_rfl
    case hry16 => kernel_rfl
    case hQy16 => exact fun _ _ _ h => h
    case hyy16 =>
      refine .inl ⟨by rfl, fun W hW => ?_⟩
      obtain ⟨f0, f1, f2, f3⟩ := row3_facts (show W.heap[gm]? = _ from HDM.out W hW)
      obtain ⟨p0, p1⟩ := row2c (show W.heap[w.heap.size]? = _ from HDP.out W hW)
      obtain ⟨c0, c1, c2, c3, c4⟩ := row5_facts (show W.heap[w.heap.size + 1]? = _ from HDC.out W hW)
      go_simp
      try with_reducible rfl
    try simp only [Act.put, List.setIfInBounds_toArray, List.set_cons_zero, List.set_cons_succ]
    refine Held3.Ways.plain (i := 6) (oi := ?oy17) ?vy17 ?hiy17 ?hsy17 ?hfy17 ?hry17 ?hQy17 ?hyy17 (fun _ _ _ h => h) ?resty17
    case hiy17 => exact rfl
    case hsy17 => kernel_rfl
    case hfy17 => kernel_rfl
    case hry17 => kernel_rfl
    case hQy17 => exact fun _ _ _ h => h
    case hyy17 =>
      refine .inl ⟨by rfl, fun W _ => ?_⟩
      go_simp
      try with_reducible rfl
    try simp only [Act.put, List.setIfInBounds_toArray, List.set_cons_zero, List.set_cons_succ]
    refine Held3.Ways.one (i := 7) (by rfl) (by kernel_rfl) (fun K hK => ?_)
    go_simp
    refine hK.out _ _ (fun _ h => h.alloc (Nat.le_refl _) _) ?_
    clear hK K
    try simp only [Act.put, List.setIfInBounds_toArray, List.set_cons_zero, List.set_cons_succ]
    obtain ⟨G, hG⟩ : ∃ G, G = D.alloc (.cells #[.int .i64 1, .int .i64 1, .int .i64 kind, .string k, .string v, .bool true, .int .u64 0, .int .i64 0, .bool false] 84) := ⟨_, rfl⟩
    rw [← hG]
    have hgs : G.heap[D.heap.size]? = some (.cells #[.int .i64 1, .int .i64 1, .int .i64 kind, .string k, .string v, .bool true, .int .u64 0, .int .i64 0, .bool false] 84 (0, 0)) := by rw [hG]; exact heap_alloc_new D _
    have hsz : w.heap.size ≤ D.heap.size := by have := HDZ.out; omega
    have hGF : Below w.heap.size w G := by rw [hG]; exact HDF.out.alloc hsz _
    obtain ⟨w9, hrun, hmap, htur⟩ := run_update (P := Try.prog) (t := 65) (e := 82) km_place Try.underlying65 (show SessAt G bs [] by rw [hG]; exact MapAt.alloc HDS.out _) (x := (0, 1)) rfl D.heap.size
    simp only [encP, encB] at hrun
    have HGS := Lib.hid hgs
    have HSZ := Lib.hid hsz
    have HGF := Lib.hid hGF
    have HMAP := Lib.hid hmap
    have HTUR := Lib.hid htur
    have hnb : D.heap.size ≠ bs := fun e => by have := HDS.out.lt; omega
    have HNB := Lib.hid hnb
    clear hG hgs hsz hGF hmap htur hnb
    refine Held3.Ways.one (i := 8) (by rfl) (by kernel_rfl) (fun K hK => ?_)
    go_simp
    refine hK.out _ _ (fun h => absurd rfl h) ?_
    clear hK K
    try simp only [Act.put, List.setIfInBounds_toArray, List.set_cons_zero, List.set_cons_succ]
    refine Held3.Ways.done (by kernel_rfl) ?_ _
    go_wp2_with fail
    go_end0
    exact ⟨rfl, D.heap.size, HSZ.out, (HTUR.out.fr.block _ (Array.getElem?_eq_some_iff.1 HGS.out).1 HNB.out).trans HGS.out, HMAP.out, (Fr.of_below HGF.out _).trans HTUR.out.fr (fun _ _ e => e)⟩
end Go.Proofs.Ythkacajlbenflaa.HistA
