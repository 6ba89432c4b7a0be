/- The maker's begin, where the head's example meets it. -/
import Derived.Test.YthkacajlbenflaaHistB
set_option linter.unusedVariables false
set_option linter.unusedSimpArgs false
set_option linter.unusedSectionVars false
namespace Go.Proofs.Ythkacajlbenflaa.HistA
open Go.RowKit Go.WideShapes Go.Deep Go.Proofs.Ythkacajlbenflaa.Mem Go.Proofs.Ythkacajlbenflaa.Maps Go.Proofs.Ythkacajlbenflaa.Kv
set_option maxHeartbeats 4000000 in
set_option maxRecDepth 100000 in
theorem said_begin {B gm ba bs gs : Nat} (w : World) (hB : B ≤ w.heap.size) {k v : S} (hst : St B w gm ba bs gs (.slice none 0 0) #[.int .i64 1, .int .i64 1, .int .i64 1, .string k, .string v, .bool true, .int .u64 0, .int .i64 0, .bool false] []) (step : Int) (vl : S) (hs : Bool) :
    Calls Try.prog 22 #[.pointer (some ⟨gm, 0, none⟩), .agg #[.int .i64 0, .int .i64 1], .int .i64 step, .agg #[.int .i64 1, .int .i64 1, .int .i64 0, .string vl, .bool hs, .int .u64 7, .int .i64 0]] w fun e w' => e = .returned (.tuple #[]) ∧ (∃ A c l, St B w' gm ba bs gs (.slice (some ⟨A, 0, none⟩) 1 c) #[.int .i64 1, .int .i64 1, .int .i64 1, .string k, .string v, .bool false, .int .u64 7, .int .i64 0, .bool true] [((7, 0), 0)] ∧ TAt B w' A (.int .u64 7 :: .int .i64 0 :: .int .i64 step :: .int .i64 0 :: .bool false :: .bool false :: .slice none 0 0 :: l)) ∧ Below B w w' := by
  have HB0 := Lib.hid hB
  have HwM := Lib.hid hst.fm
  have HwS := Lib.hid hst.fs
  have HwA := Lib.hid hst.fa
  have HwG := Lib.hid hst.fg
  have HLM := Lib.hid hst.lm
  have HLS := Lib.hid hst.ls
  have HLA := Lib.hid hst.la
  have HLG := Lib.hid hst.lg
  have HNE := Lib.hid hst.ne
  have HwF := Lib.hid trivial
  have HwZ := Lib.hid trivial
  clear hB hst
  go_enter Try.func22, Try.ntmps22
  go_upto_region 1 with fail
  obtain ⟨X, hX⟩ : ∃ X, X = (w.alloc (.cells #[.int .i64 0, .int .i64 1] 71)).alloc (.cells #[.int .i64 1, .int .i64 1, .int .i64 0, .string vl, .bool hs, .int .u64 7, .int .i64 0] 32) := ⟨_, rfl⟩
  rw [← hX]
  have hb : Below w.heap.size w X := by rw [hX]; exact ((Below.refl _ _).alloc (Nat.le_refl _) _).alloc (by simp) _
  have HwP := Lib.hid trivial
  have HwN := Lib.hid trivial
  have HXM : Hid (X.heap[gm]? = some (.cells #[.slice none 0 0, .map (some ba), .map (some bs)] 67 (0, 0))) := Lib.hid ((hb.block _ (Array.getElem?_eq_some_iff.1 HwM.out).1).trans HwM.out)
  have HXG : Hid (X.heap[gs]? = some (.cells #[.int .i64 1, .int .i64 1, .int .i64 1, .string k, .string v, .bool true, .int .u64 0, .int .i64 0, .bool false] 84 (0, 0))) := Lib.hid ((hb.block _ (Array.getElem?_eq_some_iff.1 HwG.out).1).trans HwG.out)
  have HXP : Hid (X.heap[w.heap.size]? = some (.cells #[.int .i64 0, .int .i64 1] 71 (0, 0))) := Lib.hid (by rw [hX, Below.heap_alloc _ _ _ (by simp)]; exact heap_alloc_new w _)
  have HXN : Hid (X.heap[w.heap.size + 1]? = some (.cells #[.int .i64 1, .int .i64 1, .int .i64 0, .string vl, .bool hs, .int .u64 7, .int .i64 0] 32 (0, 0))) := Lib.hid (by
    rw [hX]
    have h9 := heap_alloc_new (w.alloc (.cells #[.int .i64 0, .int .i64 1] 71)) (.cells #[.int .i64 1, .int .i64 1, .int .i64 0, .string vl, .bool hs, .int .u64 7, .int .i64 0] 32)
    rw [World.size_alloc] at h9
    exact h9)
  have HXS : Hid (SessAt X bs [((0, 1), gs)]) := Lib.hid (MapAt.below HwS.out hb)
  have HXA : Hid (AtAt X ba []) := Lib.hid (MapAt.below HwA.out hb)
  have HXF : Hid (Below B w X) := Lib.hid (hb.mono HB0.out)
  have HXZ : Hid (w.heap.size + 2 ≤ X.heap.size) := Lib.hid (by rw [hX]; simp)
  clear HwM HwG HwP HwN HwS HwA HwF HwZ hX hb
  obtain ⟨D1, hD⟩ : ∃ D, D = X.drew := ⟨_, rfl⟩
  have hDh : D1.heap = X.heap := by rw [hD]; rfl
  have hDo : D1.os = X.os := by rw [hD]; rfl
  have hDt : D1.tape = X.tape := by rw [hD]; rfl
  have hDp : D1.output = X.output := by rw [hD]; rfl
  have HD1M : Hid (D1.heap[gm]? = some (.cells #[.slice none 0 0, .map (some ba), .map (some bs)] 67 (0, 0))) := Lib.hid (by rw [hDh]; exact HXM.out)
  have HD1G : Hid (D1.heap[gs]? = some (.cells #[.int .i64 1, .int .i64 1, .int .i64 1, .string k, .string v, .bool true, .int .u64 0, .int .i64 0, .bool false] 84 (0, 0))) := Lib.hid (by rw [hDh]; exact HXG.out)
  have HD1P : Hid (D1.heap[w.heap.size]? = some (.cells #[.int .i64 0, .int .i64 1] 71 (0, 0))) := Lib.hid (by rw [hDh]; exact HXP.out)
  have HD1N : Hid (D1.heap[w.heap.size + 1]? = some (.cells #[.int .i64 1, .int .i64 1, .int .i64 0, .string vl, .bool hs, .int .u64 7, .int .i64 0] 32 (0, 0))) := Lib.hid (by rw [hDh]; exact HXN.out)
  have HD1S : Hid (SessAt D1 bs [((0, 1), gs)]) := Lib.hid (MapAt.kept HXS.out (by rw [hDh]))
  have HD1A : Hid (AtAt D1 ba []) := Lib.hid (MapAt.kept HXA.out (by rw [hDh]))
  have HD1F : Hid (Below B w D1) := Lib.hid (below_same HXF.out hDh hDo hDt hDp)
  have HD1Z : Hid (w.heap.size + 2 ≤ D1.heap.size) := Lib.hid (by rw [hDh]; exact HXZ.out)
  clear HXM HXG HXP HXN HXS HXA HXF HXZ hDh hDo hDt hDp
  refine Held3.ways_start (fun _ W W' => W.heap = D1.heap → W'.heap = D1.heap) (by kernel_rfl) ?_
  rw [← hD]
  clear hD
  refine Held3.Ways.plain (i := 0) (oi := ?oy11) ?vy11 ?hiy11 ?hsy11 ?hfy11 ?hry11 ?hQy11 ?hyy11 (fun _ _ => id) ?resty11
  case hiy11 => exact rfl
  case hsy11 => kernel_rfl
  case hfy11 => kernel_rfl
  case hry11 => kernel_rfl
  case hQy11 => exact fun _ _ _ h => h
  case hyy11 =>
    refine .inl ⟨by rfl, fun W _ => ?_⟩
    go_simp
    try with_reducible rfl
  try simp only [Act.put, List.setIfInBounds_toArray, List.set_cons_zero, List.set_cons_succ]
  refine Held3.Ways.plain (i := 1) (oi := ?oy12) ?vy12 ?hiy12 ?hsy12 ?hfy12 ?hry12 ?hQy12 ?hyy12 (fun _ _ => id) ?resty12
  case hiy12 => exact rfl
  case hsy12 => kernel_rfl
  case hfy12 => kernel_rfl
  case hry12 => kernel_rfl
  case hQy12 => exact fun _ _ _ h => h
  case hyy12 =>
    refine .inl ⟨by rfl, fun W _ => ?_⟩
    go_simp
    try with_reducible rfl
  try simp only [Act.put, List.setIfInBounds_toArray, List.set_cons_zero, List.set_cons_succ]
  refine Held3.Ways.plain (i := 2) (oi := ?oy13) ?vy13 ?hiy13 ?hsy13 ?hfy13 ?hry13 ?hQy13 ?hyy13 (fun _ _ => id) ?resty13
  case hiy13 => exact rfl
  case hsy13 => kernel_rfl
  case hfy13 => kernel_rfl
  case hry13 => kernel_rfl
  case hQy13 => exact fun _ _ _ h => h
  case hyy13 =>
    refine .inl ⟨by rfl, fun W _ => ?_⟩
    go_simp
    try with_reducible rfl
  try simp only [Act.put, List.setIfInBounds_toArray, List.set_cons_zero, List.set_cons_succ]
  refine Held3.Ways.take (i := 3) (oi := ?oy14) (fun W : World => W.heap = D1.heap) (fun _ => true) ?vy14 ?hiy14 ?hsy14 ?hfy14 ?hlwy14 ?hry14 ?hQy14 rfl ?hyy14 (fun _ _ _ h _ => h) (fun _ _ => id) ?resty14
  case hiy14 => exact rfl
  case hsy14 => kernel_rfl
  case hfy14 => kernel_rfl
  case hlwy14 => kernel_rfl
  case hry14 => kernel_rfl
  case hQy14 => exact fun _ _ _ h => h
  case hyy14 =>
    refine .inl ⟨by rfl, fun W hW => ?_⟩
    obtain ⟨m0, m1, m2, m3⟩ := row3_facts (show W.heap[gm]? = some (.cells #[.slice none 0 0, .map (some ba), .map (some bs)] 67 (0, 0)) by rw [hW]; exact HD1M.out)
    obtain ⟨p0, p1⟩ := row2c (show W.heap[w.heap.size]? = some (.cells #[.int .i64 0, .int .i64 1] 71 (0, 0)) by rw [hW]; exact HD1P.out)
    have hlk := run_lookup (P := Try.prog) (t := 65) (e := 82) (z := .pointer none) km_place Try.underlying65 (by kernel_rfl) (MapAt.kept HD1S.out (show W.heap[bs]? = D1.heap[bs]? by rw [hW])) (x := (0, 1)) rfl false
    rw [getP] at hlk
    simp only [encP, encB, Option.elim] at hlk
    go_simp
    try with_reducible rfl
  try simp only [Act.put, List.setIfInBounds_toArray, List.set_cons_zero, List.set_cons_succ]
  refine Held3.Ways.take (i := 4) (oi := ?oy15) (fun W : World => W.heap = D1.heap) (fun _ => true) ?vy15 ?hiy15 ?hsy15 ?hfy15 ?hlwy15 ?hry15 ?hQy15 rfl ?hyy15 (fun _ _ _ h _ => h) (fun _ _ => id) ?resty15
  case hiy15 => exact rfl
  case hsy15 => kernel_rfl
  case hfy15 => kernel_rfl
  case hlwy15 => kernel_rfl
  case hry15 => kernel_rfl
  case hQy15 => exact fun _ _ _ h => h
  case hyy15 =>
    refine .inl ⟨by rfl, fun W hW => ?_⟩
    obtain ⟨m0, m1, m2, m3⟩ := row3_facts (show W.heap[gm]? = some (.cells #[.slice none 0 0, .map (some ba), .map (some bs)] 67 (0, 0)) by rw [hW]; exact HD1M.out)
    obtain ⟨p0, p1⟩ := row2c (show W.heap[w.heap.size]? = some (.cells #[.int .i64 0, .int .i64 1] 71 (0, 0)) by rw [hW]; exact HD1P.out)
    have hlk := run_lookup (P := Try.prog) (t := 65) (e := 82) (z := .pointer none) km_place Try.underlying65 (by kernel_rfl) (MapAt.kept HD1S.out (show W.heap[bs]? = D1.heap[bs]? by rw [hW])) (x := (0, 1)) rfl false
    rw [getP] at hlk
    simp only [encP, encB, Option.elim] at hlk
    go_simp
    try with_reducible rfl
  try simp only [Act.put, List.setIfInBounds_toArray, List.set_cons_zero, List.set_cons_succ]
  refine Held3.Ways.take (i := 5) (oi := ?oy16) (fun W : World => W.heap = D1.heap) (fun _ => true) ?vy16 ?hiy16 ?hsy16 ?hfy16 ?hlwy16 ?hry16 ?hQy16 rfl ?hyy16 (fun _ _ _ h _ => h) (fun _ _ => id) ?resty16
  case hiy16 => exact rfl
  case hsy16 => kernel_rfl
  case hfy16 => kernel_rfl
  case hlwy16 => kernel_rfl
  case hry16 => kernel_rfl
  case hQy16 => exact fun _ _ _ h => h
  case hyy16 =>
    refine .inl ⟨by rfl, fun W hW => ?_⟩
    obtain ⟨m0, m1, m2, m3⟩ := row3_facts (show W.heap[gm]? = some (.cells #[.slice none 0 0, .map (some ba), .map (some bs)] 67 (0, 0)) by rw [hW]; exact HD1M.out)
    obtain ⟨p0, p1⟩ := row2c (show W.heap[w.heap.size]? = some (.cells #[.int .i64 0, .int .i64 1] 71 (0, 0)) by rw [hW]; exact HD1P.out)
    have hlk := run_lookup (P := Try.prog) (t := 65) (e := 82) (z := .pointer none) km_place Try.underlying65 (by kernel_rfl) (MapAt.kept HD1S.out (show W.heap[bs]? = D1.heap[bs]? by rw [hW])) (x := (0, 1)) rfl false
    rw [getP] at hlk
    simp only [encP, encB, Option.elim] at hlk
    go_simp
    try with_reducible rfl
  try simp only [Act.put, List.setIfInBounds_toArray, List.set_cons_zero, List.set_cons_succ]
  refine Held3.Ways.plain (i := 6) (oi := ?oy17) ?vy17 ?hiy17 ?hsy17 ?hfy17 ?hry17 ?hQy17 ?hyy17 (fun _ _ => id) ?resty17
  case hiy17 => exact rfl
  case hsy17 => kernel_rfl
  case hfy17 => kernel_rfl
  case hry17 => kernel_rfl
  case hQy17 => exact fun _ _ _ h => h
  case hyy17 =>
    refine .inl ⟨by rfl, fun W _ => ?_⟩
    go_simp
    try with_reducible rfl
  try simp only [Act.put, List.setIfInBounds_toArray, List.set_cons_zero, List.set_cons_succ]
  refine Held3.Ways.done (by kernel_rfl) ?_ _
  go_upto_region 2 with fail
  obtain ⟨D2, hD⟩ : ∃ D, D = D1.drew := ⟨_, rfl⟩
  have hDh : D2.heap = D1.heap := by rw [hD]; rfl
  have hDo : D2.os = D1.os := by rw [hD]; rfl
  have hDt : D2.tape = D1.tape := by rw [hD]; rfl
  have hDp : D2.output = D1.output := by rw [hD]; rfl
  have HD2M : Hid (D2.heap[gm]? = some (.cells #[.slice none 0 0, .map (some ba), .map (some bs)] 67 (0, 0))) := Lib.hid (by rw [hDh]; exact HD1M.out)
  have HD2G : Hid (D2.heap[gs]? = some (.cells #[.int .i64 1, .int .i64 1, .int .i64 1, .string k, .string v, .bool true, .int .u64 0, .int .i64 0, .bool false] 84 (0, 0))) := Lib.hid (by rw [hDh]; exact HD1G.out)
  have HD2P : Hid (D2.heap[w.heap.size]? = some (.cells #[.int .i64 0, .int .i64 1] 71 (0, 0))) := Lib.hid (by rw [hDh]; exact HD1P.out)
  have HD2N : Hid (D2.heap[w.heap.size + 1]? = some (.cells #[.int .i64 1, .int .i64 1, .int .i64 0, .string vl, .bool hs, .int .u64 7, .int .i64 0] 32 (0, 0))) := Lib.hid (by rw [hDh]; exact HD1N.out)
  have HD2S : Hid (SessAt D2 bs [((0, 1), gs)]) := Lib.hid (MapAt.kept HD1S.out (by rw [hDh]))
  have HD2A : Hid (AtAt D2 ba []) := Lib.hid (MapAt.kept HD1A.out (by rw [hDh]))
  have HD2F : Hid (Below B w D2) := Lib.hid (below_same HD1F.out hDh hDo hDt hDp)
  have HD2Z : Hid (w.heap.size + 2 ≤ D2.heap.size) := Lib.hid (by rw [hDh]; exact HD1Z.out)
  clear HD1M HD1G HD1P HD1N HD1S HD1A HD1F HD1Z hDh hDo hDt hDp
  refine Held3.ways_start (fun _ W W' => W.heap = D2.heap → W'.heap = D2.heap) (by kernel_rfl) ?_
  rw [← hD]
  clear hD
  refine Held3.Ways.plain (i := 0) (oi := ?oy28) ?vy28 ?hiy28 ?hsy28 ?hfy28 ?hry28 ?hQy28 ?hyy28 (fun _ _ => id) ?resty28
  case hiy28 => exact rfl
  case hsy28 => kernel_rfl
  case hfy28 => kernel_rfl
  case hry28 => kernel_rfl
  case hQy28 => exact fun _ _ _ h => h
  case hyy28 =>
    refine .inl ⟨by rfl, fun W _ => ?_⟩
    go_simp
    try with_reducible rfl
  try simp only [Act.put, List.setIfInBounds_toArray, List.set_cons_zero, List.set_cons_succ]
  refine Held3.Ways.plain (i := 1) (oi := ?oy29) ?vy29 ?hiy29 ?hsy29 ?hfy29 ?hry29 ?hQy29 ?hyy29 (fun _ _ => id) ?resty29
  case hiy29 => exact rfl
  case hsy29 => kernel_rfl
  case hfy29 => kernel_rfl
  case hry29 => kernel_rfl
  case hQy29 => exact fun _ _ _ h => h
  case hyy29 =>
    refine .inl ⟨by rfl, fun W _ => ?_⟩
    go_simp
    try with_reducible rfl
  try simp only [Act.put, List.setIfInBounds_toArray, List.set_cons_zero, List.set_cons_succ]
  refine Held3.Ways.plain (i := 2) (oi := ?oy210) ?vy210 ?hiy210 ?hsy210 ?hfy210 ?hry210 ?hQy210 ?hyy210 (fun _ _ => id) ?resty210
  case hiy210 => exact rfl
  case hsy210 => kernel_rfl
  case hfy210 => kernel_rfl
  case hry210 => kernel_rfl
  case hQy210 => exact fun _ _ _ h => h
  case hyy210 =>
    refine .inl ⟨by rfl, fun W _ => ?_⟩
    go_simp
    try with_reducible rfl
  try simp only [Act.put, List.setIfInBounds_toArray, List.set_cons_zero, List.set_cons_succ]
  refine Held3.Ways.plain (i := 3) (oi := ?oy211) ?vy211 ?hiy211 ?hsy211 ?hfy211 ?hry211 ?hQy211 ?hyy211 (fun _ _ => id) ?resty211
  case hiy211 => exact rfl
  case hsy211 => kernel_rfl
  case hfy211 => kernel_rfl
  case hry211 => kernel_rfl
  case hQy211 => exact fun _ _ _ h => h
  case hyy211 =>
    refine .inl ⟨by rfl, fun W _ => ?_⟩
    go_simp
    try with_reducible rfl
  try simp only [Act.put, List.setIfInBounds_toArray, List.set_cons_zero, List.set_cons_succ]
  refine Held3.Ways.plain (i := 4) (oi := ?oy212) ?vy212 ?hiy212 ?hsy212 ?hfy212 ?hry212 ?hQy212 ?hyy212 (fun _ _ => id) ?resty212
  case hiy212 => exact rfl
  case hsy212 => kernel_rfl
  case hfy212 => kernel_rfl
  case hry212 => kernel_rfl
  case hQy212 => exact fun _ _ _ h => h
  case hyy212 =>
    refine .inl ⟨by rfl, fun W _ => ?_⟩
    go_simp
    try with_reducible rfl
  try simp only [Act.put, List.setIfInBounds_toArray, List.set_cons_zero, List.set_cons_succ]
  refine Held3.Ways.plain (i := 5) (oi := ?oy213) ?vy213 ?hiy213 ?hsy213 ?hfy213 ?hry213 ?hQy213 ?hyy213 (fun _ _ => id) ?resty213
  case hiy213 => exact rfl
  case hsy213 => kernel_rfl
  case hfy213 => kernel_rfl
  case hry213 => kernel_rfl
  case hQy213 => exact fun _ _ _ h => h
  case hyy213 =>
    refine .inl ⟨by rfl, fun W _ => ?_⟩
    go_simp
    try with_reducible rfl
  try simp only [Act.put, List.setIfInBounds_toArray, List.set_cons_zero, List.set_cons_succ]
  refine Held3.Ways.take (i := 6) (oi := ?oy214) (fun W : World => W.heap = D2.heap) (fun _ => true) ?vy214 ?hiy214 ?hsy214 ?hfy214 ?hlwy214 ?hry214 ?hQy214 rfl ?hyy214 (fun _ _ _ h _ => h) (fun _ _ => id) ?resty214
  case hiy214 => exact rfl
  case hsy214 => kernel_rfl
  case hfy214 => kernel_rfl
  case hlwy214 => kernel_rfl
  case hry214 => kernel_rfl
  case hQy214 => exact fun _ _ _ h => h
  case hyy214 =>
    refine .inl ⟨by rfl, fun W hW => ?_⟩
    obtain ⟨n0, n1, n2, n3, n4, n5, n6⟩ := row7_facts (show W.heap[w.heap.size + 1]? = some (.cells #[.int .i64 1, .int .i64 1, .int .i64 0, .string vl, .bool hs, .int .u64 7, .int .i64 0] 32 (0, 0)) by rw [hW]; exact HD2N.out)
    obtain ⟨g0, g1, g2, g3, g4, g5, g6, g7, g8, g9⟩ := row9_facts (show W.heap[gs]? = some (.cells #[.int .i64 1, .int .i64 1, .int .i64 1, .string k, .string v, .bool true, .int .u64 0, .int .i64 0, .bool false] 84 (0, 0)) by rw [hW]; exact HD2G.out)
    go_simp
    try with_reducible rfl
  try simp only [Act.put, List.setIfInBounds_toArray, List.set_cons_zero, List.set_cons_succ]
  refine Held3.Ways.plain (i := 7) (oi := ?oy215) ?vy215 ?hiy215 ?hsy215 ?hfy215 ?hry215 ?hQy215 ?hyy215 (fun _ _ => id) ?resty215
  case hiy215 => exact rfl
  case hsy215 => kernel_rfl
  case hfy215 => kernel_rfl
  case hry215 => kernel_rfl
  case hQy215 => exact fun _ _ _ h => h
  case hyy215 =>
    refine .inl ⟨by rfl, fun W _ => ?_⟩
    go_simp
    try with_reducible rfl
  try simp only [Act.put, List.setIfInBounds_toArray, List.set_cons_zero, List.set_cons_succ]
  refine Held3.Ways.plain (i := 8) (oi := ?oy216) ?vy216 ?hiy216 ?hsy216 ?hfy216 ?hry216 ?hQy216 ?hyy216 (fun _ _ => id) ?resty216
  case hiy216 => exact rfl
  case hsy216 => kernel_rfl
  case hfy216 => kernel_rfl
  case hry216 => kernel_rfl
  case hQy216 => exact fun _ _ _ h => h
  case hyy216 =>
    refine .inl ⟨by rfl, fun W _ => ?_⟩
    go_simp
    try with_reducible rfl
  try simp only [Act.put, List.setIfInBounds_toArray, List.set_cons_zero, List.set_cons_succ]
  refine Held3.Ways.plain (i := 9) (oi := ?oy217) ?vy217 ?hiy217 ?hsy217 ?hfy217 ?hry217 ?hQy217 ?hyy217 (fun _ _ => id) ?resty217
  case hiy217 => exact rfl
  case hsy217 => kernel_rfl
  case hfy217 => kernel_rfl
  case hry217 => kernel_rfl
  case hQy217 => exact fun _ _ _ h => h
  case hyy217 =>
    refine .inl ⟨by rfl, fun W _ => ?_⟩
    go_simp
    try with_reducible rfl
  try simp only [Act.put, List.setIfInBounds_toArray, List.set_cons_zero, List.set_cons_succ]
  refine Held3.Ways.plain (i := 10) (oi := ?oy218) ?vy218 ?hiy218 ?hsy218 ?hfy218 ?hry218 ?hQy218 ?hyy218 (fun _ _ => id) ?resty218
  case hiy218 => exact rfl
  case hsy218 => kernel_rfl
  case hfy218 => kernel_rfl
  case hry218 => kernel_rfl
  case hQy218 => exact fun _ _ _ h => h
  case hyy218 =>
    refine .inl ⟨by rfl, fun W _ => ?_⟩
    go_simp
    try with_reducible rfl
  try simp only [Act.put, List.setIfInBounds_toArray, List.set_cons_zero, List.set_cons_succ]
  refine Held3.Ways.take (i := 11) (oi := ?oy219) (fun W : World => W.heap = D2.heap) (fun _ => true) ?vy219 ?hiy219 ?hsy219 ?hfy219 ?hlwy219 ?hry219 ?hQy219 rfl ?hyy219 (fun _ _ _ h _ => h) (fun _ _ => id) ?resty219
  case hiy219 => exact rfl
  case hsy219 => kernel_rfl
  case hfy219 => kernel_rfl
  case hlwy219 => kernel_rfl
  case hry219 => kernel_rfl
  case hQy219 => exact fun _ _ _ h => h
  case hyy219 =>
    refine .inl ⟨by rfl, fun W hW => ?_⟩
    obtain ⟨n0, n1, n2, n3, n4, n5, n6⟩ := row7_facts (show W.heap[w.heap.size + 1]? = some (.cells #[.int .i64 1, .int .i64 1, .int .i64 0, .string vl, .bool hs, .int .u64 7, .int .i64 0] 32 (0, 0)) by rw [hW]; exact HD2N.out)
    obtain ⟨g0, g1, g2, g3, g4, g5, g6, g7, g8, g9⟩ := row9_facts (show W.heap[gs]? = some (.cells #[.int .i64 1, .int .i64 1, .int .i64 1, .string k, .string v, .bool true, .int .u64 0, .int .i64 0, .bool false] 84 (0, 0)) by rw [hW]; exact HD2G.out)
    go_simp
    try with_reducible rfl
  try simp only [Act.put, List.setIfInBounds_toArray, List.set_cons_zero, List.set_cons_succ]
  refine Held3.Ways.plain (i := 12) (oi := ?oy220) ?vy220 ?hiy220 ?hsy220 ?hfy220 ?hry220 ?hQy220 ?hyy220 (fun _ _ => id) ?resty220
  case hiy220 => exact rfl
  case hsy220 => kernel_rfl
  case hfy220 => kernel_rfl
  case hry220 => kernel_rfl
  case hQy220 => exact fun _ _ _ h => h
  case hyy220 =>
    refine .inl ⟨by rfl, fun W _ => ?_⟩
    go_simp
    try with_reducible rfl
  try simp only [Act.put, List.setIfInBounds_toArray, List.set_cons_zero, List.set_cons_succ]
  refine Held3.Ways.plain (i := 13) (oi := ?oy221) ?vy221 ?hiy221 ?hsy221 ?hfy221 ?hry221 ?hQy221 ?hyy221 (fun _ _ => id) ?resty221
  case hiy221 => exact rfl
  case hsy221 => kernel_rfl
  case hfy221 => kernel_rfl
  case hry221 => kernel_rfl
  case hQy221 => exact fun _ _ _ h => h
  case hyy221 =>
    refine .inl ⟨by rfl, fun W _ => ?_⟩
    go_simp
    try with_reducible rfl
  try simp only [Act.put, List.setIfInBounds_toArray, List.set_cons_zero, List.set_cons_succ]
  refine Held3.Ways.plain (i := 14) (oi := ?oy222) ?vy222 ?hiy222 ?hsy222 ?hfy222 ?hry222 ?hQy222 ?hyy222 (fun _ _ => id) ?resty222
  case hiy222 => exact rfl
  case hsy222 => kernel_rfl
  case hfy222 => kernel_rfl
  case hry222 => kernel_rfl
  case hQy222 => exact fun _ _ _ h => h
  case hyy222 =>
    refine .inl ⟨by rfl, fun W _ => ?_⟩
    go_simp
    try with_reducible rfl
  try simp only [Act.put, List.setIfInBounds_toArray, List.set_cons_zero, List.set_cons_succ]
  refine Held3.Ways.plain (i := 15) (oi := ?oy223) ?vy223 ?hiy223 ?hsy223 ?hfy223 ?hry223 ?hQy223 ?hyy223 (fun _ _ => id) ?resty223
  case hiy223 => exact rfl
  case hsy223 => kernel_rfl
  case hfy223 => kernel_rfl
  case hry223 => kernel_rfl
  case hQy223 => exact fun _ _ _ h => h
  case hyy223 =>
    refine .inl ⟨by rfl, fun W _ => ?_⟩
    go_simp
    try with_reducible rfl
  try simp only [Act.put, List.setIfInBounds_toArray, List.set_cons_zero, List.set_cons_succ]
  refine Held3.Ways.take (i := 16) (oi := ?oy224) (fun W : World => W.heap = D2.heap) (fun _ => true) ?vy224 ?hiy224 ?hsy224 ?hfy224 ?hlwy224 ?hry224 ?hQy224 rfl ?hyy224 (fun _ _ _ h _ => h) (fun _ _ => id) ?resty224
  case hiy224 => exact rfl
  case hsy224 => kernel_rfl
  case hfy224 => kernel_rfl
  case hlwy224 => kernel_rfl
  case hry224 => kernel_rfl
  case hQy224 => exact fun _ _ _ h => h
  case hyy224 =>
    refine .inl ⟨by rfl, fun W hW => ?_⟩
    obtain ⟨n0, n1, n2, n3, n4, n5, n6⟩ := row7_facts (show W.heap[w.heap.size + 1]? = some (.cells #[.int .i64 1, .int .i64 1, .int .i64 0, .string vl, .bool hs, .int .u64 7, .int .i64 0] 32 (0, 0)) by rw [hW]; exact HD2N.out)
    obtain ⟨g0, g1, g2, g3, g4, g5, g6, g7, g8, g9⟩ := row9_facts (show W.heap[gs]? = some (.cells #[.int .i64 1, .int .i64 1, .int .i64 1, .string k, .string v, .bool true, .int .u64 0, .int .i64 0, .bool false] 84 (0, 0)) by rw [hW]; exact HD2G.out)
    go_simp
    try with_reducible rfl
  try simp only [Act.put, List.setIfInBounds_toArray, List.set_cons_zero, List.set_cons_succ]
  refine Held3.Ways.plain (i := 17) (oi := ?oy225) ?vy225 ?hiy225 ?hsy225 ?hfy225 ?hry225 ?hQy225 ?hyy225 (fun _ _ => id) ?resty225
  case hiy225 => exact rfl
  case hsy225 => kernel_rfl
  case hfy225 => kernel_rfl
  case hry225 => kernel_rfl
  case hQy225 => exact fun _ _ _ h => h
  case hyy225 =>
    refine .inl ⟨by rfl, fun W _ => ?_⟩
    go_simp
    try with_reducible rfl
  try simp only [Act.put, List.setIfInBounds_toArray, List.set_cons_zero, List.set_cons_succ]
  refine Held3.Ways.plain (i := 18) (oi := ?oy226) ?vy226 ?hiy226 ?hsy226 ?hfy226 ?hry226 ?hQy226 ?hyy226 (fun _ _ => id) ?resty226
  case hiy226 => exact rfl
  case hsy226 => kernel_rfl
  case hfy226 => kernel_rfl
  case hry226 => kernel_rfl
  case hQy226 => exact fun _ _ _ h => h
  case hyy226 =>
    refine .inl ⟨by rfl, fun W _ => ?_⟩
    go_simp
    try with_reducible rfl
  try simp only [Act.put, List.setIfInBounds_toArray, List.set_cons_zero, List.set_cons_succ]
  refine Held3.Ways.done (by kernel_rfl) ?_ _
  obtain ⟨g0, g1, g2, g3, g4, g5, g6, g7, g8, g9⟩ := row9_facts (HD2G.out)
  go_upto_region 4 with fail
  clear g0 g1 g2 g3 g4 g5 g6 g7 g8 g9
  obtain ⟨X3, hX⟩ : ∃ X, X = (D2.setCell ⟨gs, 5, none⟩ (.bool false)) := ⟨_, rfl⟩
  rw [← hX]
  have hX2 : X3 = sets D2 gs [(5, .bool false)] := hX
  clear hX
  have HX3M : Hid (X3.heap[gm]? = some (.cells #[.slice none 0 0, .map (some ba), .map (some bs)] 67 (0, 0))) := Lib.hid (by rw [hX2, sets_ne _ _ (ne_types HD2M.out HD2G.out (by decide))]; exact HD2M.out)
  have HX3G : Hid (X3.heap[gs]? = some (.cells #[.int .i64 1, .int .i64 1, .int .i64 1, .string k, .string v, .bool false, .int .u64 0, .int .i64 0, .bool false] 84 (0, 0))) := Lib.hid (by rw [hX2]; have h9 := sets_row [(5, .bool false)] D2 HD2G.out; simpa only [List.foldl_cons, List.foldl_nil, List.setIfInBounds_toArray, List.set_cons_zero, List.set_cons_succ] using h9)
  have HX3P : Hid (X3.heap[w.heap.size]? = some (.cells #[.int .i64 0, .int .i64 1] 71 (0, 0))) := Lib.hid (by rw [hX2, sets_ne _ _ (ne_types HD2P.out HD2G.out (by decide))]; exact HD2P.out)
  have HX3N : Hid (X3.heap[w.heap.size + 1]? = some (.cells #[.int .i64 1, .int .i64 1, .int .i64 0, .string vl, .bool hs, .int .u64 7, .int .i64 0] 32 (0, 0))) := Lib.hid (by rw [hX2, sets_ne _ _ (ne_types HD2N.out HD2G.out (by decide))]; exact HD2N.out)
  have HX3S : Hid (SessAt X3 bs [((0, 1), gs)]) := Lib.hid (MapAt.kept HD2S.out (by rw [hX2, sets_ne _ _ (map_ne_row HD2S.out HD2G.out)]))
  have HX3A : Hid (AtAt X3 ba []) := Lib.hid (MapAt.kept HD2A.out (by rw [hX2, sets_ne _ _ (map_ne_row HD2A.out HD2G.out)]))
  have HX3F : Hid (Below B w X3) := Lib.hid (by rw [hX2]; exact sets_below _ HD2F.out HLG.out)
  have HX3Z : Hid (w.heap.size + 2 ≤ X3.heap.size) := Lib.hid (by rw [hX2, sets_size]; exact HD2Z.out)
  clear HD2M HD2G HD2P HD2N HD2S HD2A HD2F HD2Z hX2
  obtain ⟨n0, n1, n2, n3, n4, n5, n6⟩ := row7_facts (HX3N.out)
  obtain ⟨g0, g1, g2, g3, g4, g5, g6, g7, g8, g9⟩ := row9_facts (HX3G.out)
  go_upto_region 8 with fail
  clear n0 n1 n2 n3 n4 n5 n6 g0 g1 g2 g3 g4 g5 g6 g7 g8 g9
  obtain ⟨X4, hX⟩ : ∃ X, X = (((X3.setCell ⟨gs, 6, none⟩ (.int .u64 7)).setCell ⟨gs, 7, none⟩ (.int .i64 0)).setCell ⟨gs, 8, none⟩ (.bool true)) := ⟨_, rfl⟩
  rw [← hX]
  have hX2 : X4 = sets X3 gs [(6, .int .u64 7), (7, .int .i64 0), (8, .bool true)] := hX
  clear hX
  have HX4M : Hid (X4.heap[gm]? = some (.cells #[.slice none 0 0, .map (some ba), .map (some bs)] 67 (0, 0))) := Lib.hid (by rw [hX2, sets_ne _ _ (ne_types HX3M.out HX3G.out (by decide))]; exact HX3M.out)
  have HX4G : Hid (X4.heap[gs]? = some (.cells #[.int .i64 1, .int .i64 1, .int .i64 1, .string k, .string v, .bool false, .int .u64 7, .int .i64 0, .bool true] 84 (0, 0))) := Lib.hid (by rw [hX2]; have h9 := sets_row [(6, .int .u64 7), (7, .int .i64 0), (8, .bool true)] X3 HX3G.out; simpa only [List.foldl_cons, List.foldl_nil, List.setIfInBounds_toArray, List.set_cons_zero, List.set_cons_succ] using h9)
  have HX4P : Hid (X4.heap[w.heap.size]? = some (.cells #[.int .i64 0, .int .i64 1] 71 (0, 0))) := Lib.hid (by rw [hX2, sets_ne _ _ (ne_types HX3P.out HX3G.out (by decide))]; exact HX3P.out)
  have HX4N : Hid (X4.heap[w.heap.size + 1]? = some (.cells #[.int .i64 1, .int .i64 1, .int .i64 0, .string vl, .bool hs, .int .u64 7, .int .i64 0] 32 (0, 0))) := Lib.hid (by rw [hX2, sets_ne _ _ (ne_types HX3N.out HX3G.out (by decide))]; exact HX3N.out)
  have HX4S : Hid (SessAt X4 bs [((0, 1), gs)]) := Lib.hid (MapAt.kept HX3S.out (by rw [hX2, sets_ne _ _ (map_ne_row HX3S.out HX3G.out)]))
  have HX4A : Hid (AtAt X4 ba []) := Lib.hid (MapAt.kept HX3A.out (by rw [hX2, sets_ne _ _ (map_ne_row HX3A.out HX3G.out)]))
  have HX4F : Hid (Below B w X4) := Lib.hid (by rw [hX2]; exact sets_below _ HX3F.out HLG.out)
  have HX4Z : Hid (w.heap.size + 2 ≤ X4.heap.size) := Lib.hid (by rw [hX2, sets_size]; exact HX3Z.out)
  clear HX3M HX3G HX3P HX3N HX3S HX3A HX3F HX3Z hX2
  obtain ⟨D5, hD⟩ : ∃ D, D = X4.drew := ⟨_, rfl⟩
  have hDh : D5.heap = X4.heap := by rw [hD]; rfl
  have hDo : D5.os = X4.os := by rw [hD]; rfl
  have hDt : D5.tape = X4.tape := by rw [hD]; rfl
  have hDp : D5.output = X4.output := by rw [hD]; rfl
  have HD5M : Hid (D5.heap[gm]? = some (.cells #[.slice none 0 0, .map (some ba), .map (some bs)] 67 (0, 0))) := Lib.hid (by rw [hDh]; exact HX4M.out)
  have HD5G : Hid (D5.heap[gs]? = some (.cells #[.int .i64 1, .int .i64 1, .int .i64 1, .string k, .string v, .bool false, .int .u64 7, .int .i64 0, .bool true] 84 (0, 0))) := Lib.hid (by rw [hDh]; exact HX4G.out)
  have HD5P : Hid (D5.heap[w.heap.size]? = some (.cells #[.int .i64 0, .int .i64 1] 71 (0, 0))) := Lib.hid (by rw [hDh]; exact HX4P.out)
  have HD5N : Hid (D5.heap[w.heap.size + 1]? = some (.cells #[.int .i64 1, .int .i64 1, .int .i64 0, .string vl, .bool hs, .int .u64 7, .int .i64 0] 32 (0, 0))) := Lib.hid (by rw [hDh]; exact HX4N.out)
  have HD5S : Hid (SessAt D5 bs [((0, 1), gs)]) := Lib.hid (MapAt.kept HX4S.out (by rw [hDh]))
  have HD5A : Hid (AtAt D5 ba []) := Lib.hid (MapAt.kept HX4A.out (by rw [hDh]))
  have HD5F : Hid (Below B w D5) := Lib.hid (below_same HX4F.out hDh hDo hDt hDp)
  have HD5Z : Hid (w.heap.size + 2 ≤ D5.heap.size) := Lib.hid (by rw [hDh]; exact HX4Z.out)
  clear HX4M HX4G HX4P HX4N HX4S HX4A HX4F HX4Z hDh hDo hDt hDp
  refine Held3.ways_start (fun j W W' => j ≠ 11 → Below D5.heap.size D5 W → Below D5.heap.size D5 W') (by kernel_rfl) ?_
  rw [← hD]
  clear hD
  refine Held3.Ways.plain (i := 0) (oi := ?oy327) ?vy327 ?hiy327 ?hsy327 ?hfy327 ?hry327 ?hQy327 ?hyy327 (fun _ _ _ h => h) ?resty327
  case hiy327 => exact rfl
  case hsy327 => kernel_rfl
  case hfy327 => kernel_rfl
  case hry327 => kernel_rfl
  case hQy327 => exact fun _ _ _ h => h
  case hyy327 =>
    refine .inl ⟨by rfl, fun W _ => ?_⟩
    go_simp
    try with_reducible rfl
  try simp only [Act.put, List.setIfInBounds_toArray, List.set_cons_zero, List.set_cons_succ]
  refine Held3.Ways.plain (i := 1) (oi := ?oy328) ?vy328 ?hiy328 ?hsy328 ?hfy328 ?hry328 ?hQy328 ?hyy328 (fun _ _ _ h => h) ?resty328
  case hiy328 => exact rfl
  case hsy328 => kernel_rfl
  case hfy328 => kernel_rfl
  case hry328 => kernel_rfl
  case hQy328 => exact fun _ _ _ h => h
  case hyy328 =>
    refine .inl ⟨by rfl, fun W _ => ?_⟩
    go_simp
    try with_reducible rfl
  try simp only [Act.put, List.setIfInBounds_toArray, List.set_cons_zero, List.set_cons_succ]
  refine Held3.Ways.plain (i := 2) (oi := ?oy329) ?vy329 ?hiy329 ?hsy329 ?hfy329 ?hry329 ?hQy329 ?hyy329 (fun _ _ _ h => h) ?resty329
  case hiy329 => exact rfl
  case hsy329 => kernel_rfl
  case hfy329 => kernel_rfl
  case hry329 => kernel_rfl
  case hQy329 => exact fun _ _ _ h => h
  case hyy329 =>
    refine .inl ⟨by rfl, fun W _ => ?_⟩
    go_simp
    try with_reducible rfl
  try simp only [Act.put, List.setIfInBounds_toArray, List.set_cons_zero, List.set_cons_succ]
  refine Held3.Ways.take (i := 3) (oi := ?oy330) (fun W : World => Below D5.heap.size D5 W) (fun j => j != 11) ?vy330 ?hiy330 ?hsy330 ?hfy330 ?hlwy330 ?hry330 ?hQy330 (Below.refl _ _) ?hyy330 (fun j W W' (h : j ≠ 11 → Below D5.heap.size D5 W → Below D5.heap.size D5 W') e hs => h (by simpa using e) hs) (fun _ _ _ h => h) ?resty330
  case hiy330 => exact rfl
  case hsy330 => kernel_rfl
  case hfy330 => kernel_rfl
  case hlwy330 => kernel_rfl
  case hry330 => kernel_rfl
  case hQy330 => exact fun _ _ _ h => h
  case hyy330 =>
    refine .inl ⟨by rfl, fun W hW => ?_⟩
    obtain ⟨m0, m1, m2, m3⟩ := row3_facts (show W.heap[gm]? = some (.cells #[.slice none 0 0, .map (some ba), .map (some bs)] 67 (0, 0)) from (hW.block _ (Array.getElem?_eq_some_iff.1 HD5M.out).1).trans HD5M.out)
    obtain ⟨n0, n1, n2, n3, n4, n5, n6⟩ := row7_facts (show W.heap[w.heap.size + 1]? = some (.cells #[.int .i64 1, .int .i64 1, .int .i64 0, .string vl, .bool hs, .int .u64 7, .int .i64 0] 32 (0, 0)) from (hW.block _ (Array.getElem?_eq_some_iff.1 HD5N.out).1).trans HD5N.out)
    go_simp
    try with_reducible rfl
  try simp only [Act.put, List.setIfInBounds_toArray, List.set_cons_zero, List.set_cons_succ]
  refine Held3.Ways.plain (i := 4) (oi := ?oy331) ?vy331 ?hiy331 ?hsy331 ?hfy331 ?hry331 ?hQy331 ?hyy331 (fun _ _ _ h => h) ?resty331
  case hiy331 => exact rfl
  case hsy331 => kernel_rfl
  case hfy331 => kernel_rfl
  case hry331 => kernel_rfl
  case hQy331 => exact fun _ _ _ h => h
  case hyy331 =>
    refine .inl ⟨by rfl, fun W _ => ?_⟩
    go_simp
    try with_reducible rfl
  try simp only [Act.put, List.setIfInBounds_toArray, List.set_cons_zero, List.set_cons_succ]
  refine Held3.Ways.take (i := 5) (oi := ?oy332) (fun W : World => Below D5.heap.size D5 W) (fun j => j != 11) ?vy332 ?hiy332 ?hsy332 ?hfy332 ?hlwy332 ?hry332 ?hQy332 (Below.refl _ _) ?hyy332 (fun j W W' (h : j ≠ 11 → Below D5.heap.size D5 W → Below D5.heap.size D5 W') e hs => h (by simpa using e) hs) (fun _ _ _ h => h) ?resty332
  case hiy332 => exact rfl
  case hsy332 => kernel_rfl
  case hfy332 => kernel_rfl
  case hlwy332 => kernel_rfl
  case hry332 => kernel_rfl
  case hQy332 => exact fun _ _ _ h => h
  case hyy332 =>
    refine .inl ⟨by rfl, fun W hW => ?_⟩
    obtain ⟨m0, m1, m2, m3⟩ := row3_facts (show W.heap[gm]? = some (.cells #[.slice none 0 0, .map (some ba), .map (some bs)] 67 (0, 0)) from (hW.block _ (Array.getElem?_eq_some_iff.1 HD5M.out).1).trans HD5M.out)
    obtain ⟨n0, n1, n2, n3, n4, n5, n6⟩ := row7_facts (show W.heap[w.heap.size + 1]? = some (.cells #[.int .i64 1, .int .i64 1, .int .i64 0, .string vl, .bool hs, .int .u64 7, .int .i64 0] 32 (0, 0)) from (hW.block _ (Array.getElem?_eq_some_iff.1 HD5N.out).1).trans HD5N.out)
    go_simp
    try with_reducible rfl
  try simp only [Act.put, List.setIfInBounds_toArray, List.set_cons_zero, List.set_cons_succ]
  refine Held3.Ways.plain (i := 6) (oi := ?oy333) ?vy333 ?hiy333 ?hsy333 ?hfy333 ?hry333 ?hQy333 ?hyy333 (fun _ _ _ h => h) ?resty333
  case hiy333 => exact rfl
  case hsy333 => kernel_rfl
  case hfy333 => kernel_rfl
  case hry333 => kernel_rfl
  case hQy333 => exact fun _ _ _ h => h
  case hyy333 =>
    refine .inl ⟨by rfl, fun W _ => ?_⟩
    go_simp
    try with_reducible rfl
  try simp only [Act.put, List.setIfInBounds_toArray, List.set_cons_zero, List.set_cons_succ]
  refine Held3.Ways.plain (i := 7) (oi := ?oy334) ?vy334 ?hiy334 ?hsy334 ?hfy334 ?hry334 ?hQy334 ?hyy334 (fun _ _ _ h => h) ?resty334
  case hiy334 => exact rfl
  case hsy334 => kernel_rfl
  case hfy334 => kernel_rfl
  case hry334 => kernel_rfl
  case hQy334 => exact fun _ _ _ h => h
  case hyy334 =>
    refine .inl ⟨by rfl, fun W _ => ?_⟩
    go_simp
    try with_reducible rfl
  try simp only [Act.put, List.setIfInBounds_toArray, List.set_cons_zero, List.set_cons_succ]
  refine Held3.Ways.plain (i := 8) (oi := ?oy335) ?vy335 ?hiy335 ?hsy335 ?hfy335 ?hry335 ?hQy335 ?hyy335 (fun _ _ _ h => h) ?resty335
  case hiy335 => exact rfl
  case hsy335 => kernel_rfl
  case hfy335 => kernel_rfl
  case hry335 => kernel_rfl
  case hQy335 => exact fun _ _ _ h => h
  case hyy335 =>
    refine .inl ⟨by rfl, fun W _ => ?_⟩
    go_simp
    try with_reducible rfl
  try simp only [Act.put, List.setIfInBounds_toArray, List.set_cons_zero, List.set_cons_succ]
  refine Held3.Ways.take (i := 9) (oi := ?oy336) (fun W : World => Below D5.heap.size D5 W) (fun j => j != 11) ?vy336 ?hiy336 ?hsy336 ?hfy336 ?hlwy336 ?hry336 ?hQy336 (Below.refl _ _) ?hyy336 (fun j W W' (h : j ≠ 11 → Below D5.heap.size D5 W → Below D5.heap.size D5 W') e hs => h (by simpa using e) hs) (fun _ _ _ h => h) ?resty336
  case hiy336 => exact rfl
  case hsy336 => kernel_rfl
  case hfy336 => kernel_rfl
  case hlwy336 => kernel_rfl
  case hry336 => kernel_rfl
  case hQy336 => exact fun _ _ _ h => h
  case hyy336 =>
    refine .inl ⟨by rfl, fun W hW => ?_⟩
    obtain ⟨m0, m1, m2, m3⟩ := row3_facts (show W.heap[gm]? = some (.cells #[.slice none 0 0, .map (some ba), .map (some bs)] 67 (0, 0)) from (hW.block _ (Array.getElem?_eq_some_iff.1 HD5M.out).1).trans HD5M.out)
    obtain ⟨n0, n1, n2, n3, n4, n5, n6⟩ := row7_facts (show W.heap[w.heap.size + 1]? = some (.cells #[.int .i64 1, .int .i64 1, .int .i64 0, .string vl, .bool hs, .int .u64 7, .int .i64 0] 32 (0, 0)) from (hW.block _ (Array.getElem?_eq_some_iff.1 HD5N.out).1).trans HD5N.out)
    go_simp
    try with_reducible rfl
  try simp only [Act.put, List.setIfInBounds_toArray, List.set_cons_zero, List.set_cons_succ]
  refine Held3.Ways.plain (i := 10) (oi := ?oy337) ?vy337 ?hiy337 ?hsy337 ?hfy337 ?hry337 ?hQy337 ?hyy337 (fun _ _ _ h => h) ?resty337
  case hiy337 => exact rfl
  case hsy337 => kernel_rfl
  case hfy337 => kernel_rfl
  case hry337 => kernel_rfl
  case hQy337 => exact fun _ _ _ h => h
  case hyy337 =>
    refine .inl ⟨by rfl, fun W _ => ?_⟩
    go_simp
    try with_reducible rfl
  try simp only [Act.put, List.setIfInBounds_toArray, List.set_cons_zero, List.set_cons_succ]
  obtain ⟨w9, hrun, hmap, htur⟩ := run_update (P := Try.prog) (t := 64) (e := 3) km_tid Try.underlying64 HD5A.out (x := (7, 0)) rfl 0
  have hrun' : (Instr.mapUpdate 64 (.map (some ba)) (.agg #[.int .u64 7, .int .i64 0]) (.int .i64 0)).run Try.prog D5 = .ok () w9 := hrun
  clear hrun
  have HMAP := Lib.hid hmap
  have HTUR := Lib.hid htur
  clear hmap htur
  refine Held3.Ways.one (i := 11) (by rfl) (by kernel_rfl) (fun K hK => ?_)
  go_simp
  refine hK.out _ _ (fun h => absurd rfl h) ?_
  clear hK K
  try simp only [Act.put, List.setIfInBounds_toArray, List.set_cons_zero, List.set_cons_succ]
  refine Held3.Ways.done (by kernel_rfl) ?_ _
  clear hrun'
  have hmap : MapAt encT encN (fun p => p = (7, 0)) w9 ba [((7, 0), 0)] := HMAP.out
  have htur := HTUR.out
  clear HMAP HTUR
  have Hw9M : Hid (w9.heap[gm]? = some (.cells #[.slice none 0 0, .map (some ba), .map (some bs)] 67 (0, 0))) := Lib.hid ((htur.fr.block _ (Array.getElem?_eq_some_iff.1 HD5M.out).1 (map_ne_row HD5A.out HD5M.out).symm).trans HD5M.out)
  have Hw9G : Hid (w9.heap[gs]? = some (.cells #[.int .i64 1, .int .i64 1, .int .i64 1, .string k, .string v, .bool false, .int .u64 7, .int .i64 0, .bool true] 84 (0, 0))) := Lib.hid ((htur.fr.block _ (Array.getElem?_eq_some_iff.1 HD5G.out).1 (map_ne_row HD5A.out HD5G.out).symm).trans HD5G.out)
  have Hw9P : Hid (w9.heap[w.heap.size]? = some (.cells #[.int .i64 0, .int .i64 1] 71 (0, 0))) := Lib.hid ((htur.fr.block _ (Array.getElem?_eq_some_iff.1 HD5P.out).1 (map_ne_row HD5A.out HD5P.out).symm).trans HD5P.out)
  have Hw9N : Hid (w9.heap[w.heap.size + 1]? = some (.cells #[.int .i64 1, .int .i64 1, .int .i64 0, .string vl, .bool hs, .int .u64 7, .int .i64 0] 32 (0, 0))) := Lib.hid ((htur.fr.block _ (Array.getElem?_eq_some_iff.1 HD5N.out).1 (map_ne_row HD5A.out HD5N.out).symm).trans HD5N.out)
  have Hw9S : Hid (SessAt w9 bs [((0, 1), gs)]) := Lib.hid (MapAt.kept HD5S.out (htur.fr.block _ HD5S.out.lt HNE.out.symm))
  have Hw9A : Hid (AtAt w9 ba [((7, 0), 0)]) := Lib.hid (hmap)
  have Hw9F : Hid (Below B w w9) := Lib.hid (below_turned htur HD5F.out HLA.out)
  have Hw9Z : Hid (w.heap.size + 2 ≤ w9.heap.size) := Lib.hid (by rw [htur.size]; exact HD5Z.out)
  clear HD5M HD5G HD5P HD5N HD5S HD5A HD5F HD5Z hmap htur
  clear D5
  go_upto_region 9 with fail
  obtain ⟨D6, hD⟩ : ∃ D, D = w9.drew := ⟨_, rfl⟩
  have hDh : D6.heap = w9.heap := by rw [hD]; rfl
  have hDo : D6.os = w9.os := by rw [hD]; rfl
  have hDt : D6.tape = w9.tape := by rw [hD]; rfl
  have hDp : D6.output = w9.output := by rw [hD]; rfl
  have HD6M : Hid (D6.heap[gm]? = some (.cells #[.slice none 0 0, .map (some ba), .map (some bs)] 67 (0, 0))) := Lib.hid (by rw [hDh]; exact Hw9M.out)
  have HD6G : Hid (D6.heap[gs]? = some (.cells #[.int .i64 1, .int .i64 1, .int .i64 1, .string k, .string v, .bool false, .int .u64 7, .int .i64 0, .bool true] 84 (0, 0))) := Lib.hid (by rw [hDh]; exact Hw9G.out)
  have HD6P : Hid (D6.heap[w.heap.size]? = some (.cells #[.int .i64 0, .int .i64 1] 71 (0, 0))) := Lib.hid (by rw [hDh]; exact Hw9P.out)
  have HD6N : Hid (D6.heap[w.heap.size + 1]? = some (.cells #[.int .i64 1, .int .i64 1, .int .i64 0, .string vl, .bool hs, .int .u64 7, .int .i64 0] 32 (0, 0))) := Lib.hid (by rw [hDh]; exact Hw9N.out)
  have HD6S : Hid (SessAt D6 bs [((0, 1), gs)]) := Lib.hid (MapAt.kept Hw9S.out (by rw [hDh]))
  have HD6A : Hid (AtAt D6 ba [((7, 0), 0)]) := Lib.hid (MapAt.kept Hw9A.out (by rw [hDh]))
  have HD6F : Hid (Below B w D6) := Lib.hid (below_same Hw9F.out hDh hDo hDt hDp)
  have HD6Z : Hid (w.heap.size + 2 ≤ D6.heap.size) := Lib.hid (by rw [hDh]; exact Hw9Z.out)
  clear Hw9M Hw9G Hw9P Hw9N Hw9S Hw9A Hw9F Hw9Z hDh hDo hDt hDp
  refine Held3.ways_start (fun j W W' => j ≠ 13 → Below D6.heap.size D6 W → Below D6.heap.size D6 W') (by kernel_rfl) ?_
  rw [← hD]
  clear hD
  refine Held3.Ways.plain (i := 0) (oi := ?oy538) ?vy538 ?hiy538 ?hsy538 ?hfy538 ?hry538 ?hQy538 ?hyy538 (fun _ _ _ h => h) ?resty538
  case hiy538 => exact rfl
  case hsy538 => kernel_rfl
  case hfy538 => kernel_rfl
  case hry538 => kernel_rfl
  case hQy538 => exact fun _ _ _ h => h
  case hyy538 =>
    refine .inl ⟨by rfl, fun W _ => ?_⟩
    go_simp
    try with_reducible rfl
  try simp only [Act.put, List.setIfInBounds_toArray, List.set_cons_zero, List.set_cons_succ]
  refine Held3.Ways.plain (i := 1) (oi := ?oy539) ?vy539 ?hiy539 ?hsy539 ?hfy539 ?hry539 ?hQy539 ?hyy539 (fun _ _ _ h => h) ?resty539
  case hiy539 => exact rfl
  case hsy539 => kernel_rfl
  case hfy539 => kernel_rfl
  case hry539 => kernel_rfl
  case hQy539 => exact fun _ _ _ h => h
  case hyy539 =>
    refine .inl ⟨by rfl, fun W _ => ?_⟩
    go_simp
    try with_reducible rfl
  try simp only [Act.put, List.setIfInBounds_toArray, List.set_cons_zero, List.set_cons_succ]
  refine Held3.Ways.plain (i := 2) (oi := ?oy540) ?vy540 ?hiy540 ?hsy540 ?hfy540 ?hry540 ?hQy540 ?hyy540 (fun _ _ _ h => h) ?resty540
  case hiy540 => exact rfl
  case hsy540 => kernel_rfl
  case hfy540 => kernel_rfl
  case hry540 => kernel_rfl
  case hQy540 => exact fun _ _ _ h => h
  case hyy540 =>
    refine .inl ⟨by rfl, fun W _ => ?_⟩
    go_simp
    try with_reducible rfl
  try simp only [Act.put, List.setIfInBounds_toArray, List.set_cons_zero, List.set_cons_succ]
  refine Held3.Ways.plain (i := 3) (oi := ?oy541) ?vy541 ?hiy541 ?hsy541 ?hfy541 ?hry541 ?hQy541 ?hyy541 (fun _ _ _ h => h) ?resty541
  case hiy541 => exact rfl
  case hsy541 => kernel_rfl
  case hfy541 => kernel_rfl
  case hry541 => kernel_rfl
  case hQy541 => exact fun _ _ _ h => h
  case hyy541 =>
    refine .inl ⟨by rfl, fun W _ => ?_⟩
    go_simp
    try with_reducible rfl
  try simp only [Act.put, List.setIfInBounds_toArray, List.set_cons_zero, List.set_cons_succ]
  refine Held3.Ways.take (i := 4) (oi := ?oy542) (fun W : World => Below D6.heap.size D6 W) (fun j => j != 13) ?vy542 ?hiy542 ?hsy542 ?hfy542 ?hlwy542 ?hry542 ?hQy542 (Below.refl _ _) ?hyy542 (fun j W W' (h : j ≠ 13 → Below D6.heap.size D6 W → Below D6.heap.size D6 W') e hs => h (by simpa using e) hs) (fun _ _ _ h => h) ?resty542
  case hiy542 => exact rfl
  case hsy542 => kernel_rfl
  case hfy542 => kernel_rfl
  case hlwy542 => kernel_rfl
  case hry542 => kernel_rfl
  case hQy542 => exact fun _ _ _ h => h
  case hyy542 =>
    refine .inl ⟨by rfl, fun W hW => ?_⟩
    obtain ⟨m0, m1, m2, m3⟩ := row3_facts (show W.heap[gm]? = some (.cells #[.slice none 0 0, .map (some ba), .map (some bs)] 67 (0, 0)) from (hW.block _ (Array.getElem?_eq_some_iff.1 HD6M.out).1).trans HD6M.out)
    obtain ⟨n0, n1, n2, n3, n4, n5, n6⟩ := row7_facts (show W.heap[w.heap.size + 1]? = some (.cells #[.int .i64 1, .int .i64 1, .int .i64 0, .string vl, .bool hs, .int .u64 7, .int .i64 0] 32 (0, 0)) from (hW.block _ (Array.getElem?_eq_some_iff.1 HD6N.out).1).trans HD6N.out)
    go_simp
    try with_reducible rfl
  try simp only [Act.put, List.setIfInBounds_toArray, List.set_cons_zero, List.set_cons_succ]
  refine Held3.Ways.plain (i := 5) (oi := ?oy543) ?vy543 ?hiy543 ?hsy543 ?hfy543 ?hry543 ?hQy543 ?hyy543 (fun _ _ _ h => h) ?resty543
  case hiy543 => exact rfl
  case hsy543 => kernel_rfl
  case hfy543 => kernel_rfl
  case hry543 => kernel_rfl
  case hQy543 => exact fun _ _ _ h => h
  case hyy543 =>
    refine .inl ⟨by rfl, fun W _ => ?_⟩
    go_simp
    try with_reducible rfl
  try simp only [Act.put, List.setIfInBounds_toArray, List.set_cons_zero, List.set_cons_succ]
  refine Held3.Ways.take (i := 6) (oi := ?oy544) (fun W : World => Below D6.heap.size D6 W) (fun j => j != 13) ?vy544 ?hiy544 ?hsy544 ?hfy544 ?hlwy544 ?hry544 ?hQy544 (Below.refl _ _) ?hyy544 (fun j W W' (h : j ≠ 13 → Below D6.heap.size D6 W → Below D6.heap.size D6 W') e hs => h (by simpa using e) hs) (fun _ _ _ h => h) ?resty544
  case hiy544 => exact rfl
  case hsy544 => kernel_rfl
  case hfy544 => kernel_rfl
  case hlwy544 => kernel_rfl
  case hry544 => kernel_rfl
  case hQy544 => exact fun _ _ _ h => h
  case hyy544 =>
    refine .inl ⟨by rfl, fun W hW => ?_⟩
    obtain ⟨m0, m1, m2, m3⟩ := row3_facts (show W.heap[gm]? = some (.cells #[.slice none 0 0, .map (some ba), .map (some bs)] 67 (0, 0)) from (hW.block _ (Array.getElem?_eq_some_iff.1 HD6M.out).1).trans HD6M.out)
    obtain ⟨n0, n1, n2, n3, n4, n5, n6⟩ := row7_facts (show W.heap[w.heap.size + 1]? = some (.cells #[.int .i64 1, .int .i64 1, .int .i64 0, .string vl, .bool hs, .int .u64 7, .int .i64 0] 32 (0, 0)) from (hW.block _ (Array.getElem?_eq_some_iff.1 HD6N.out).1).trans HD6N.out)
    go_simp
    try with_reducible rfl
  try simp only [Act.put, List.setIfInBounds_toArray, List.set_cons_zero, List.set_cons_succ]
  refine Held3.Ways.plain (i := 7) (oi := ?oy545) ?vy545 ?hiy545 ?hsy545 ?hfy545 ?hry545 ?hQy545 ?hyy545 (fun _ _ _ h => h) ?resty545
  case hiy545 => exact rfl
  case hsy545 => kernel_rfl
  case hfy545 => kernel_rfl
  case hry545 => kernel_rfl
  case hQy545 => exact fun _ _ _ h => h
  case hyy545 =>
    refine .inl ⟨by rfl, fun W _ => ?_⟩
    go_simp
    try with_reducible rfl
  try simp only [Act.put, List.setIfInBounds_toArray, List.set_cons_zero, List.set_cons_succ]
  refine Held3.Ways.plain (i := 8) (oi := ?oy546) ?vy546 ?hiy546 ?hsy546 ?hfy546 ?hry546 ?hQy546 ?hyy546 (fun _ _ _ h => h) ?resty546
  case hiy546 => exact rfl
  case hsy546 => kernel_rfl
  case hfy546 => kernel_rfl
  case hry546 => kernel_rfl
  case hQy546 => exact fun _ _ _ h => h
  case hyy546 =>
    refine .inl ⟨by rfl, fun W _ => ?_⟩
    go_simp
    try with_reducible rfl
  try simp only [Act.put, List.setIfInBounds_toArray, List.set_cons_zero, List.set_cons_succ]
  refine Held3.Ways.one (i := 9) (by rfl) (by kernel_rfl) (fun K hK => ?_)
  go_simp
  refine hK.out _ _ (fun _ h => h.alloc h.size _) ?_
  clear hK K
  try simp only [Act.put, List.setIfInBounds_toArray, List.set_cons_zero, List.set_cons_succ]
  obtain ⟨G, hG⟩ : ∃ G, G = D6.alloc (.cells #[.int .u64 7, .int .i64 0, .int .i64 step, .int .i64 0, .bool false, .bool false, .slice none 0 0] 39) := ⟨_, rfl⟩
  rw [← hG]
  have hGs : G.heap.size = D6.heap.size + 1 := by rw [hG]; simp
  have hGr := heap_alloc_new D6 (.cells #[.int .u64 7, .int .i64 0, .int .i64 step, .int .i64 0, .bool false, .bool false, .slice none 0 0] 39)
  rw [← hG] at hGr
  have hGb : Below D6.heap.size D6 G := by rw [hG]; exact (Below.refl _ _).alloc (Nat.le_refl _) _
  clear hG
  have hrun := app_new (ty := 35) (t := 35) Try.underlying35 ty_txn G (g := D6.heap.size) (news := [.int .u64 7, .int .i64 0, .int .i64 step, .int .i64 0, .bool false, .bool false, .slice none 0 0]) rfl (fun j u hu => row_at hGr (by simpa using hu)) (by decide)
  have HRUN := Lib.hid hrun
  have HGB := Lib.hid hGb
  have HGS := Lib.hid hGs
  clear hrun hGb hGs hGr
  refine Held3.Ways.one (i := 10) (by rfl) (by kernel_rfl) (fun K hK => ?_)
  refine step_append rfl _ _ 35 35 rfl (by simp [Act.eval, Act.put]) (by simp [Act.eval, Act.put]) HRUN.out ?_
  rintro v1 W2 ⟨cn, ln, rfl, hr2, hb2⟩
  have HR2 := Lib.hid hr2
  have HB2 := Lib.hid hb2
  clear hr2 hb2
  refine hK.out _ _ (fun _ h => below_then h h.size HB2.out) ?_
  clear hK K HRUN
  try simp only [Act.put, List.setIfInBounds_toArray, List.set_cons_zero, List.set_cons_succ]
  have hb3 : Below D6.heap.size D6 W2 := below_then HGB.out HGB.out.size HB2.out
  obtain ⟨A, hgA⟩ : ∃ g, g = G.heap.size := ⟨_, rfl⟩
  rw [← hgA] at HR2 ⊢
  have HLT : Hid (B ≤ A) := Lib.hid (by rw [hgA, HGS.out]; exact Nat.le_trans HB0.out (by have := HD6Z.out; omega))
  clear hgA HGS HGB HB2 G
  obtain ⟨Y7, hY⟩ : ∃ Y, Y = W2 := ⟨_, rfl⟩
  rw [← hY] at hb3 HR2 ⊢
  clear hY W2
  have HY7M : Hid (Y7.heap[gm]? = some (.cells #[.slice none 0 0, .map (some ba), .map (some bs)] 67 (0, 0))) := Lib.hid ((hb3.block _ (Array.getElem?_eq_some_iff.1 HD6M.out).1).trans HD6M.out)
  have HY7G : Hid (Y7.heap[gs]? = some (.cells #[.int .i64 1, .int .i64 1, .int .i64 1, .string k, .string v, .bool false, .int .u64 7, .int .i64 0, .bool true] 84 (0, 0))) := Lib.hid ((hb3.block _ (Array.getElem?_eq_some_iff.1 HD6G.out).1).trans HD6G.out)
  have HY7P : Hid (Y7.heap[w.heap.size]? = some (.cells #[.int .i64 0, .int .i64 1] 71 (0, 0))) := Lib.hid ((hb3.block _ (Array.getElem?_eq_some_iff.1 HD6P.out).1).trans HD6P.out)
  have HY7N : Hid (Y7.heap[w.heap.size + 1]? = some (.cells #[.int .i64 1, .int .i64 1, .int .i64 0, .string vl, .bool hs, .int .u64 7, .int .i64 0] 32 (0, 0))) := Lib.hid ((hb3.block _ (Array.getElem?_eq_some_iff.1 HD6N.out).1).trans HD6N.out)
  have HY7S : Hid (SessAt Y7 bs [((0, 1), gs)]) := Lib.hid (MapAt.below HD6S.out hb3)
  have HY7A : Hid (AtAt Y7 ba [((7, 0), 0)]) := Lib.hid (MapAt.below HD6A.out hb3)
  have HY7F : Hid (Below B w Y7) := Lib.hid (below_then HD6F.out (Nat.le_trans HB0.out (by have := HD6Z.out; omega)) hb3)
  have HY7Z : Hid (w.heap.size + 2 ≤ Y7.heap.size) := Lib.hid (by have := HD6Z.out; have := hb3.size; omega)
  clear HD6M HD6G HD6P HD6N HD6S HD6A HD6F HD6Z hb3
  have HY7T : Hid (Y7.heap[A]? = some (.cells (.int .u64 7 :: .int .i64 0 :: .int .i64 step :: .int .i64 0 :: .bool false :: .bool false :: .slice none 0 0 :: ln).toArray 39 (0, 0))) := HR2
  clear HR2
  refine Held3.Ways.plain (i := 11) (oi := ?oy747) ?vy747 ?hiy747 ?hsy747 ?hfy747 ?hry747 ?hQy747 ?hyy747 (fun _ _ _ h => h) ?resty747
  case hiy747 => exact rfl
  case hsy747 => kernel_rfl
  case hfy747 => kernel_rfl
  case hry747 => kernel_rfl
  case hQy747 => exact fun _ _ _ h => h
  case hyy747 =>
    refine .inl ⟨by rfl, fun W _ => ?_⟩
    go_simp
    try with_reducible rfl
  try simp only [Act.put, List.setIfInBounds_toArray, List.set_cons_zero, List.set_cons_succ]
  refine Held3.Ways.plain (i := 12) (oi := ?oy748) ?vy748 ?hiy748 ?hsy748 ?hfy748 ?hry748 ?hQy748 ?hyy748 (fun _ _ _ h => h) ?resty748
  case hiy748 => exact rfl
  case hsy748 => kernel_rfl
  case hfy748 => kernel_rfl
  case hry748 => kernel_rfl
  case hQy748 => exact fun _ _ _ h => h
  case hyy748 =>
    refine .inl ⟨by rfl, fun W _ => ?_⟩
    go_simp
    try with_reducible rfl
  try simp only [Act.put, List.setIfInBounds_toArray, List.set_cons_zero, List.set_cons_succ]
  obtain ⟨m0, m1, m2, m3⟩ := row3_facts (HY7M.out)
  refine Held3.Ways.one (i := 13) (by rfl) (by kernel_rfl) (fun K hK => ?_)
  go_simp
  refine hK.out _ _ (fun h => absurd rfl h) ?_
  clear hK K
  try simp only [Act.put, List.setIfInBounds_toArray, List.set_cons_zero, List.set_cons_succ]
  refine Held3.Ways.done (by kernel_rfl) ?_ _
  clear m0 m1 m2 m3
  obtain ⟨X8, hX⟩ : ∃ X, X = (Y7.setCell ⟨gm, 0, none⟩ (.slice (some ⟨A, 0, none⟩) 1 cn)) := ⟨_, rfl⟩
  rw [← hX]
  have hX2 : X8 = sets Y7 gm [(0, .slice (some ⟨A, 0, none⟩) 1 cn)] := hX
  clear hX
  have HX8M : Hid (X8.heap[gm]? = some (.cells #[.slice (some ⟨A, 0, none⟩) 1 cn, .map (some ba), .map (some bs)] 67 (0, 0))) := Lib.hid (by rw [hX2]; have h9 := sets_row [(0, .slice (some ⟨A, 0, none⟩) 1 cn)] Y7 HY7M.out; simpa only [List.foldl_cons, List.foldl_nil, List.setIfInBounds_toArray, List.set_cons_zero, List.set_cons_succ] using h9)
  have HX8G : Hid (X8.heap[gs]? = some (.cells #[.int .i64 1, .int .i64 1, .int .i64 1, .string k, .string v, .bool false, .int .u64 7, .int .i64 0, .bool true] 84 (0, 0))) := Lib.hid (by rw [hX2, sets_ne _ _ (ne_types HY7G.out HY7M.out (by decide))]; exact HY7G.out)
  have HX8P : Hid (X8.heap[w.heap.size]? = some (.cells #[.int .i64 0, .int .i64 1] 71 (0, 0))) := Lib.hid (by rw [hX2, sets_ne _ _ (ne_types HY7P.out HY7M.out (by decide))]; exact HY7P.out)
  have HX8N : Hid (X8.heap[w.heap.size + 1]? = some (.cells #[.int .i64 1, .int .i64 1, .int .i64 0, .string vl, .bool hs, .int .u64 7, .int .i64 0] 32 (0, 0))) := Lib.hid (by rw [hX2, sets_ne _ _ (ne_types HY7N.out HY7M.out (by decide))]; exact HY7N.out)
  have HX8T : Hid (X8.heap[A]? = some (.cells (.int .u64 7 :: .int .i64 0 :: .int .i64 step :: .int .i64 0 :: .bool false :: .bool false :: .slice none 0 0 :: ln).toArray 39 (0, 0))) := Lib.hid (by rw [hX2, sets_ne _ _ (ne_types HY7T.out HY7M.out (by decide))]; exact HY7T.out)
  have HX8S : Hid (SessAt X8 bs [((0, 1), gs)]) := Lib.hid (MapAt.kept HY7S.out (by rw [hX2, sets_ne _ _ (map_ne_row HY7S.out HY7M.out)]))
  have HX8A : Hid (AtAt X8 ba [((7, 0), 0)]) := Lib.hid (MapAt.kept HY7A.out (by rw [hX2, sets_ne _ _ (map_ne_row HY7A.out HY7M.out)]))
  have HX8F : Hid (Below B w X8) := Lib.hid (by rw [hX2]; exact sets_below _ HY7F.out HLM.out)
  have HX8Z : Hid (w.heap.size + 2 ≤ X8.heap.size) := Lib.hid (by rw [hX2, sets_size]; exact HY7Z.out)
  clear HY7M HY7G HY7P HY7N HY7T HY7S HY7A HY7F HY7Z hX2
  go_wp2_with fail
  refine bodyPost_ret (results_none rfl _ _ _) rfl ?_
  exact ⟨rfl, ⟨A, cn, ln, ⟨HX8M.out, HX8S.out, HX8A.out, HX8G.out, HLM.out, HLS.out, HLA.out, HLG.out, HNE.out⟩, ⟨HX8T.out, HLT.out⟩⟩, HX8F.out⟩
end Go.Proofs.Ythkacajlbenflaa.HistA
