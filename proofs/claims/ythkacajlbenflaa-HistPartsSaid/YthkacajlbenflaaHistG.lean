/- The maker's put, where the head's example meets it. -/
import Derived.Test.YthkacajlbenflaaHistB
set_option linter.unusedVariables false
set_option linter.unusedSimpArgs false
set_option linter.unusedSectionVars false
namespace Go.Proofs.Ythkacajlbenflaa.HistA
open Go.RowKit Go.WideShapes Go.Deep Go.Proofs.Ythkacajlbenflaa.Mem Go.Proofs.Ythkacajlbenflaa.Maps Go.Proofs.Ythkacajlbenflaa.Kv
set_option maxHeartbeats 4000000 in
set_option maxRecDepth 100000 in
theorem said_put {B gm ba bs gs A c : Nat} {l : List Value} (w : World) (hB : B ≤ w.heap.size) {k v : S} (hst : St B w gm ba bs gs (.slice (some ⟨A, 0, none⟩) 1 c) #[.int .i64 1, .int .i64 2, .int .i64 3, .string k, .string v, .bool true, .int .u64 7, .int .i64 0, .bool true] [((7, 0), 0)]) (ht : TAt B w A (.int .u64 7 :: .int .i64 0 :: .int .i64 1 :: .int .i64 0 :: .bool false :: .bool false :: .slice none 0 0 :: l)) (step : Int) (vl : S) (hs : Bool) :
    Calls Try.prog 22 #[.pointer (some ⟨gm, 0, none⟩), .agg #[.int .i64 0, .int .i64 1], .int .i64 step, .agg #[.int .i64 1, .int .i64 2, .int .i64 0, .string vl, .bool hs, .int .u64 7, .int .i64 0]] w fun e w' => e = .returned (.tuple #[]) ∧ St B w' gm ba bs gs (.slice (some ⟨A, 0, none⟩) 1 c) #[.int .i64 1, .int .i64 2, .int .i64 3, .string k, .string v, .bool false, .int .u64 7, .int .i64 0, .bool true] [((7, 0), 0)] ∧ (∃ go co lo, TAt B w' A (.int .u64 7 :: .int .i64 0 :: .int .i64 1 :: .int .i64 0 :: .bool false :: .bool false :: .slice (some ⟨go, 0, none⟩) 1 co :: l) ∧ w'.heap[go]? = some (.cells (.int .i64 3 :: .string k :: .string v :: .bool false :: lo).toArray 54 (0, 0))) ∧ Below B w w' := by
  have HB0 := Lib.hid hB
  have HwM := Lib.hid hst.fm
  have HwS := Lib.hid hst.fs
  have HwA := Lib.hid hst.fa
  have HwG := Lib.hid hst.fg
  have HLM := Lib.hid hst.lm
  have HLS := Lib.hid hst.ls
  have HLA := Lib.hid hst.la
  have HLG := Lib.hid hst.lg
  have HNE := Lib.hid hst.ne
  have HwF := Lib.hid trivial
  have HwZ := Lib.hid trivial
  clear hB hst
  have HwT : Hid (w.heap[A]? = some (.cells (.int .u64 7 :: .int .i64 0 :: .int .i64 1 :: .int .i64 0 :: .bool false :: .bool false :: .slice none 0 0 :: l).toArray 39 (0, 0))) := Lib.hid ht.1
  have HLT := Lib.hid ht.2
  clear ht
  go_enter Try.func22, Try.ntmps22
  go_upto_region 1 with fail
  obtain ⟨X, hX⟩ : ∃ X, X = (w.alloc (.cells #[.int .i64 0, .int .i64 1] 71)).alloc (.cells #[.int .i64 1, .int .i64 2, .int .i64 0, .string vl, .bool hs, .int .u64 7, .int .i64 0] 32) := ⟨_, rfl⟩
  rw [← hX]
  have hb : Below w.heap.size w X := by rw [hX]; exact ((Below.refl _ _).alloc (Nat.le_refl _) _).alloc (by simp) _
  have HwP := Lib.hid trivial
  have HwN := Lib.hid trivial
  have HXM : Hid (X.heap[gm]? = some (.cells #[.slice (some ⟨A, 0, none⟩) 1 c, .map (some ba), .map (some bs)] 67 (0, 0))) := Lib.hid ((hb.block _ (Array.getElem?_eq_some_iff.1 HwM.out).1).trans HwM.out)
  have HXG : Hid (X.heap[gs]? = some (.cells #[.int .i64 1, .int .i64 2, .int .i64 3, .string k, .string v, .bool true, .int .u64 7, .int .i64 0, .bool true] 84 (0, 0))) := Lib.hid ((hb.block _ (Array.getElem?_eq_some_iff.1 HwG.out).1).trans HwG.out)
  have HXT : Hid (X.heap[A]? = some (.cells (.int .u64 7 :: .int .i64 0 :: .int .i64 1 :: .int .i64 0 :: .bool false :: .bool false :: .slice none 0 0 :: l).toArray 39 (0, 0))) := Lib.hid ((hb.block _ (Array.getElem?_eq_some_iff.1 HwT.out).1).trans HwT.out)
  have HXP : Hid (X.heap[w.heap.size]? = some (.cells #[.int .i64 0, .int .i64 1] 71 (0, 0))) := Lib.hid (by rw [hX, Below.heap_alloc _ _ _ (by simp)]; exact heap_alloc_new w _)
  have HXN : Hid (X.heap[w.heap.size + 1]? = some (.cells #[.int .i64 1, .int .i64 2, .int .i64 0, .string vl, .bool hs, .int .u64 7, .int .i64 0] 32 (0, 0))) := Lib.hid (by
    rw [hX]
    have h9 := heap_alloc_new (w.alloc (.cells #[.int .i64 0, .int .i64 1] 71)) (.cells #[.int .i64 1, .int .i64 2, .int .i64 0, .string vl, .bool hs, .int .u64 7, .int .i64 0] 32)
    rw [World.size_alloc] at h9
    exact h9)
  have HXS : Hid (SessAt X bs [((0, 1), gs)]) := Lib.hid (MapAt.below HwS.out hb)
  have HXA : Hid (AtAt X ba [((7, 0), 0)]) := Lib.hid (MapAt.below HwA.out hb)
  have HXF : Hid (Below B w X) := Lib.hid (hb.mono HB0.out)
  have HXZ : Hid (w.heap.size + 2 ≤ X.heap.size) := Lib.hid (by rw [hX]; simp)
  clear HwM HwG HwT HwP HwN HwS HwA HwF HwZ hX hb
  obtain ⟨D1, hD⟩ : ∃ D, D = X.drew := ⟨_, rfl⟩
  have hDh : D1.heap = X.heap := by rw [hD]; rfl
  have hDo : D1.os = X.os := by rw [hD]; rfl
  have hDt : D1.tape = X.tape := by rw [hD]; rfl
  have hDp : D1.output = X.output := by rw [hD]; rfl
  have HD1M : Hid (D1.heap[gm]? = some (.cells #[.slice (some ⟨A, 0, none⟩) 1 c, .map (some ba), .map (some bs)] 67 (0, 0))) := Lib.hid (by rw [hDh]; exact HXM.out)
  have HD1G : Hid (D1.heap[gs]? = some (.cells #[.int .i64 1, .int .i64 2, .int .i64 3, .string k, .string v, .bool true, .int .u64 7, .int .i64 0, .bool true] 84 (0, 0))) := Lib.hid (by rw [hDh]; exact HXG.out)
  have HD1T : Hid (D1.heap[A]? = some (.cells (.int .u64 7 :: .int .i64 0 :: .int .i64 1 :: .int .i64 0 :: .bool false :: .bool false :: .slice none 0 0 :: l).toArray 39 (0, 0))) := Lib.hid (by rw [hDh]; exact HXT.out)
  have HD1P : Hid (D1.heap[w.heap.size]? = some (.cells #[.int .i64 0, .int .i64 1] 71 (0, 0))) := Lib.hid (by rw [hDh]; exact HXP.out)
  have HD1N : Hid (D1.heap[w.heap.size + 1]? = some (.cells #[.int .i64 1, .int .i64 2, .int .i64 0, .string vl, .bool hs, .int .u64 7, .int .i64 0] 32 (0, 0))) := Lib.hid (by rw [hDh]; exact HXN.out)
  have HD1S : Hid (SessAt D1 bs [((0, 1), gs)]) := Lib.hid (MapAt.kept HXS.out (by rw [hDh]))
  have HD1A : Hid (AtAt D1 ba [((7, 0), 0)]) := Lib.hid (MapAt.kept HXA.out (by rw [hDh]))
  have HD1F : Hid (Below B w D1) := Lib.hid (below_same HXF.out hDh hDo hDt hDp)
  have HD1Z : Hid (w.heap.size + 2 ≤ D1.heap.size) := Lib.hid (by rw [hDh]; exact HXZ.out)
  clear HXM HXG HXT HXP HXN HXS HXA HXF HXZ hDh hDo hDt hDp
  refine Held3.ways_start (fun _ W W' => W.heap = D1.heap → W'.heap = D1.heap) (by kernel_rfl) ?_
  rw [← hD]
  clear hD
  refine Held3.Ways.plain (i := 0) (oi := ?oy11) ?vy11 ?hiy11 ?hsy11 ?hfy11 ?hry11 ?hQy11 ?hyy11 (fun _ _ => id) ?resty11
  case hiy11 => exact rfl
  case hsy11 => kernel_rfl
  case hfy11 => kernel_rfl
  case hry11 => kernel_rfl
  case hQy11 => exact fun _ _ _ h => h
  case hyy11 =>
    refine .inl ⟨by rfl, fun W _ => ?_⟩
    go_simp
    try with_reducible rfl
  try simp only [Act.put, List.setIfInBounds_toArray, List.set_cons_zero, List.set_cons_succ]
  refine Held3.Ways.plain (i := 1) (oi := ?oy12) ?vy12 ?hiy12 ?hsy12 ?hfy12 ?hry12 ?hQy12 ?hyy12 (fun _ _ => id) ?resty12
  case hiy12 => exact rfl
  case hsy12 => kernel_rfl
  case hfy12 => kernel_rfl
  case hry12 => kernel_rfl
  case hQy12 => exact fun _ _ _ h => h
  case hyy12 =>
    refine .inl ⟨by rfl, fun W _ => ?_⟩
    go_simp
    try with_reducible rfl
  try simp only [Act.put, List.setIfInBounds_toArray, List.set_cons_zero, List.set_cons_succ]
  refine Held3.Ways.plain (i := 2) (oi := ?oy13) ?vy13 ?hiy13 ?hsy13 ?hfy13 ?hry13 ?hQy13 ?hyy13 (fun _ _ => id) ?resty13
  case hiy13 => exact rfl
  case hsy13 => kernel_rfl
  case hfy13 => kernel_rfl
  case hry13 => kernel_rfl
  case hQy13 => exact fun _ _ _ h => h
  case hyy13 =>
    refine .inl ⟨by rfl, fun W _ => ?_⟩
    go_simp
    try with_reducible rfl
  try simp only [Act.put, List.setIfInBounds_toArray, List.set_cons_zero, List.set_cons_succ]
  refine Held3.Ways.take (i := 3) (oi := ?oy14) (fun W : World => W.heap = D1.heap) (fun _ => true) ?vy14 ?hiy14 ?hsy14 ?hfy14 ?hlwy14 ?hry14 ?hQy14 rfl ?hyy14 (fun _ _ _ h _ => h) (fun _ _ => id) ?resty14
  case hiy14 => exact rfl
  case hsy14 => kernel_rfl
  case hfy14 => kernel_rfl
  case hlwy14 => kernel_rfl
  case hry14 => kernel_rfl
  case hQy14 => exact fun _ _ _ h => h
  case hyy14 =>
    refine .inl ⟨by rfl, fun W hW => ?_⟩
    obtain ⟨m0, m1, m2, m3⟩ := row3_facts (show W.heap[gm]? = some (.cells #[.slice (some ⟨A, 0, none⟩) 1 c, .map (some ba), .map (some bs)] 67 (0, 0)) by rw [hW]; exact HD1M.out)
    obtain ⟨p0, p1⟩ := row2c (show W.heap[w.heap.size]? = some (.cells #[.int .i64 0, .int .i64 1] 71 (0, 0)) by rw [hW]; exact HD1P.out)
    have hlk := run_lookup (P := Try.prog) (t := 65) (e := 82) (z := .pointer none) km_place Try.underlying65 (by kernel_rfl) (MapAt.kept HD1S.out (show W.heap[bs]? = D1.heap[bs]? by rw [hW])) (x := (0, 1)) rfl false
    rw [getP] at hlk
    simp only [encP, encB, Option.elim] at hlk
    go_simp
    try with_reducible rfl
  try simp only [Act.put, List.setIfInBounds_toArray, List.set_cons_zero, List.set_cons_succ]
  refine Held3.Ways.take (i := 4) (oi := ?oy15) (fun W : World => W.heap = D1.heap) (fun _ => true) ?vy15 ?hiy15 ?hsy15 ?hfy15 ?hlwy15 ?hry15 ?hQy15 rfl ?hyy15 (fun _ _ _ h _ => h) (fun _ _ => id) ?resty15
  case hiy15 => exact rfl
  case hsy15 => kernel_rfl
  case hfy15 => kernel_rfl
  case hlwy15 => kernel_rfl
  case hry15 => kernel_rfl
  case hQy15 => exact fun _ _ _ h => h
  case hyy15 =>
    refine .inl ⟨by rfl, fun W hW => ?_⟩
    obtain ⟨m0, m1, m2, m3⟩ := row3_facts (show W.heap[gm]? = some (.cells #[.slice (some ⟨A, 0, none⟩) 1 c, .map (some ba), .map (some bs)] 67 (0, 0)) by rw [hW]; exact HD1M.out)
    obtain ⟨p0, p1⟩ := row2c (show W.heap[w.heap.size]? = some (.cells #[.int .i64 0, .int .i64 1] 71 (0, 0)) by rw [hW]; exact HD1P.out)
    have hlk := run_lookup (P := Try.prog) (t := 65) (e := 82) (z := .pointer none) km_place Try.underlying65 (by kernel_rfl) (MapAt.kept HD1S.out (show W.heap[bs]? = D1.heap[bs]? by rw [hW])) (x := (0, 1)) rfl false
    rw [getP] at hlk
    simp only [encP, encB, Option.elim] at hlk
    go_simp
    try with_reducible rfl
  try simp only [Act.put, List.setIfInBounds_toArray, List.set_cons_zero, List.set_cons_succ]
  refine Held3.Ways.take (i := 5) (oi := ?oy16) (fun W : World => W.heap = D1.heap) (fun _ => true) ?vy16 ?hiy16 ?hsy16 ?hfy16 ?hlwy16 ?hry16 ?hQy16 rfl ?hyy16 (fun _ _ _ h _ => h) (fun _ _ => id) ?resty16
  case hiy16 => exact rfl
  case hsy16 => kernel_rfl
  case hfy16 => kernel_rfl
  case hlwy16 => kernel_rfl
  case hry16 => kernel_rfl
  case hQy16 => exact fun _ _ _ h => h
  case hyy16 =>
    refine .inl ⟨by rfl, fun W hW => ?_⟩
    obtain ⟨m0, m1, m2, m3⟩ := row3_facts (show W.heap[gm]? = some (.cells #[.slice (some ⟨A, 0, none⟩) 1 c, .map (some ba), .map (some bs)] 67 (0, 0)) by rw [hW]; exact HD1M.out)
    obtain ⟨p0, p1⟩ := row2c (show W.heap[w.heap.size]? = some (.cells #[.int .i64 0, .int .i64 1] 71 (0, 0)) by rw [hW]; exact HD1P.out)
    have hlk := run_lookup (P := Try.prog) (t := 65) (e := 82) (z := .pointer none) km_place Try.underlying65 (by kernel_rfl) (MapAt.kept HD1S.out (show W.heap[bs]? = D1.heap[bs]? by rw [hW])) (x := (0, 1)) rfl false
    rw [getP] at hlk
    simp only [encP, encB, Option.elim] at hlk
    go_simp
    try with_reducible rfl
  try simp only [Act.put, List.setIfInBounds_toArray, List.set_cons_zero, List.set_cons_succ]
  refine Held3.Ways.plain (i := 6) (oi := ?oy17) ?vy17 ?hiy17 ?hsy17 ?hfy17 ?hry17 ?hQy17 ?hyy17 (fun _ _ => id) ?resty17
  case hiy17 => exact rfl
  case hsy17 => kernel_rfl
  case hfy17 => kernel_rfl
  case hry17 => kernel_rfl
  case hQy17 => exact fun _ _ _ h => h
  case hyy17 =>
    refine .inl ⟨by rfl, fun W _ => ?_⟩
    go_simp
    try with_reducible rfl
  try simp only [Act.put, List.setIfInBounds_toArray, List.set_cons_zero, List.set_cons_succ]
  refine Held3.Ways.done (by kernel_rfl) ?_ _
  go_upto_region 2 with fail
  obtain ⟨D2, hD⟩ : ∃ D, D = D1.drew := ⟨_, rfl⟩
  have hDh : D2.heap = D1.heap := by rw [hD]; rfl
  have hDo : D2.os = D1.os := by rw [hD]; rfl
  have hDt : D2.tape = D1.tape := by rw [hD]; rfl
  have hDp : D2.output = D1.output := by rw [hD]; rfl
  have HD2M : Hid (D2.heap[gm]? = some (.cells #[.slice (some ⟨A, 0, none⟩) 1 c, .map (some ba), .map (some bs)] 67 (0, 0))) := Lib.hid (by rw [hDh]; exact HD1M.out)
  have HD2G : Hid (D2.heap[gs]? = some (.cells #[.int .i64 1, .int .i64 2, .int .i64 3, .string k, .string v, .bool true, .int .u64 7, .int .i64 0, .bool true] 84 (0, 0))) := Lib.hid (by rw [hDh]; exact HD1G.out)
  have HD2T : Hid (D2.heap[A]? = some (.cells (.int .u64 7 :: .int .i64 0 :: .int .i64 1 :: .int .i64 0 :: .bool false :: .bool false :: .slice none 0 0 :: l).toArray 39 (0, 0))) := Lib.hid (by rw [hDh]; exact HD1T.out)
  have HD2P : Hid (D2.heap[w.heap.size]? = some (.cells #[.int .i64 0, .int .i64 1] 71 (0, 0))) := Lib.hid (by rw [hDh]; exact HD1P.out)
  have HD2N : Hid (D2.heap[w.heap.size + 1]? = some (.cells #[.int .i64 1, .int .i64 2, .int .i64 0, .string vl, .bool hs, .int .u64 7, .int .i64 0] 32 (0, 0))) := Lib.hid (by rw [hDh]; exact HD1N.out)
  have HD2S : Hid (SessAt D2 bs [((0, 1), gs)]) := Lib.hid (MapAt.kept HD1S.out (by rw [hDh]))
  have HD2A : Hid (AtAt D2 ba [((7, 0), 0)]) := Lib.hid (MapAt.kept HD1A.out (by rw [hDh]))
  have HD2F : Hid (Below B w D2) := Lib.hid (below_same HD1F.out hDh hDo hDt hDp)
  have HD2Z : Hid (w.heap.size + 2 ≤ D2.heap.size) := Lib.hid (by rw [hDh]; exact HD1Z.out)
  clear HD1M HD1G HD1T HD1P HD1N HD1S HD1A HD1F HD1Z hDh hDo hDt hDp
  refine Held3.ways_start (fun _ W W' => W.heap = D2.heap → W'.heap = D2.heap) (by kernel_rfl) ?_
  rw [← hD]
  clear hD
  refine Held3.Ways.plain (i := 0) (oi := ?oy28) ?vy28 ?hiy28 ?hsy28 ?hfy28 ?hry28 ?hQy28 ?hyy28 (fun _ _ => id) ?resty28
  case hiy28 => exact rfl
  case hsy28 => kernel_rfl
  case hfy28 => kernel_rfl
  case hry28 => kernel_rfl
  case hQy28 => exact fun _ _ _ h => h
  case hyy28 =>
    refine .inl ⟨by rfl, fun W _ => ?_⟩
    go_simp
    try with_reducible rfl
  try simp only [Act.put, List.setIfInBounds_toArray, List.set_cons_zero, List.set_cons_succ]
  refine Held3.Ways.plain (i := 1) (oi := ?oy29) ?vy29 ?hiy29 ?hsy29 ?hfy29 ?hry29 ?hQy29 ?hyy29 (fun _ _ => id) ?resty29
  case hiy29 => exact rfl
  case hsy29 => kernel_rfl
  case hfy29 => kernel_rfl
  case hry29 => kernel_rfl
  case hQy29 => exact fun _ _ _ h => h
  case hyy29 =>
    refine .inl ⟨by rfl, fun W _ => ?_⟩
    go_simp
    try with_reducible rfl
  try simp only [Act.put, List.setIfInBounds_toArray, List.set_cons_zero, List.set_cons_succ]
  refine Held3.Ways.plain (i := 2) (oi := ?oy210) ?vy210 ?hiy210 ?hsy210 ?hfy210 ?hry210 ?hQy210 ?hyy210 (fun _ _ => id) ?resty210
  case hiy210 => exact rfl
  case hsy210 => kernel_rfl
  case hfy210 => kernel_rfl
  case hry210 => kernel_rfl
  case hQy210 => exact fun _ _ _ h => h
  case hyy210 =>
    refine .inl ⟨by rfl, fun W _ => ?_⟩
    go_simp
    try with_reducible rfl
  try simp only [Act.put, List.setIfInBounds_toArray, List.set_cons_zero, List.set_cons_succ]
  refine Held3.Ways.plain (i := 3) (oi := ?oy211) ?vy211 ?hiy211 ?hsy211 ?hfy211 ?hry211 ?hQy211 ?hyy211 (fun _ _ => id) ?resty211
  case hiy211 => exact rfl
  case hsy211 => kernel_rfl
  case hfy211 => kernel_rfl
  case hry211 => kernel_rfl
  case hQy211 => exact fun _ _ _ h => h
  case hyy211 =>
    refine .inl ⟨by rfl, fun W _ => ?_⟩
    go_simp
    try with_reducible rfl
  try simp only [Act.put, List.setIfInBounds_toArray, List.set_cons_zero, List.set_cons_succ]
  refine Held3.Ways.plain (i := 4) (oi := ?oy212) ?vy212 ?hiy212 ?hsy212 ?hfy212 ?hry212 ?hQy212 ?hyy212 (fun _ _ => id) ?resty212
  case hiy212 => exact rfl
  case hsy212 => kernel_rfl
  case hfy212 => kernel_rfl
  case hry212 => kernel_rfl
  case hQy212 => exact fun _ _ _ h => h
  case hyy212 =>
    refine .inl ⟨by rfl, fun W _ => ?_⟩
    go_simp
    try with_reducible rfl
  try simp only [Act.put, List.setIfInBounds_toArray, List.set_cons_zero, List.set_cons_succ]
  refine Held3.Ways.plain (i := 5) (oi := ?oy213) ?vy213 ?hiy213 ?hsy213 ?hfy213 ?hry213 ?hQy213 ?hyy213 (fun _ _ => id) ?resty213
  case hiy213 => exact rfl
  case hsy213 => kernel_rfl
  case hfy213 => kernel_rfl
  case hry213 => kernel_rfl
  case hQy213 => exact fun _ _ _ h => h
  case hyy213 =>
    refine .inl ⟨by rfl, fun W _ => ?_⟩
    go_simp
    try with_reducible rfl
  try simp only [Act.put, List.setIfInBounds_toArray, List.set_cons_zero, List.set_cons_succ]
  refine Held3.Ways.take (i := 6) (oi := ?oy214) (fun W : World => W.heap = D2.heap) (fun _ => true) ?vy214 ?hiy214 ?hsy214 ?hfy214 ?hlwy214 ?hry214 ?hQy214 rfl ?hyy214 (fun _ _ _ h _ => h) (fun _ _ => id) ?resty214
  case hiy214 => exact rfl
  case hsy214 => kernel_rfl
  case hfy214 => kernel_rfl
  case hlwy214 => kernel_rfl
  case hry214 => kernel_rfl
  case hQy214 => exact fun _ _ _ h => h
  case hyy214 =>
    refine .inl ⟨by rfl, fun W hW => ?_⟩
    obtain ⟨n0, n1, n2, n3, n4, n5, n6⟩ := row7_facts (show W.heap[w.heap.size + 1]? = some (.cells #[.int .i64 1, .int .i64 2, .int .i64 0, .string vl, .bool hs, .int .u64 7, .int .i64 0] 32 (0, 0)) by rw [hW]; exact HD2N.out)
    obtain ⟨g0, g1, g2, g3, g4, g5, g6, g7, g8, g9⟩ := row9_facts (show W.heap[gs]? = some (.cells #[.int .i64 1, .int .i64 2, .int .i64 3, .string k, .string v, .bool true, .int .u64 7, .int .i64 0, .bool true] 84 (0, 0)) by rw [hW]; exact HD2G.out)
    go_simp
    try with_reducible rfl
  try simp only [Act.put, List.setIfInBounds_toArray, List.set_cons_zero, List.set_cons_succ]
  refine Held3.Ways.plain (i := 7) (oi := ?oy215) ?vy215 ?hiy215 ?hsy215 ?hfy215 ?hry215 ?hQy215 ?hyy215 (fun _ _ => id) ?resty215
  case hiy215 => exact rfl
  case hsy215 => kernel_rfl
  case hfy215 => kernel_rfl
  case hry215 => kernel_rfl
  case hQy215 => exact fun _ _ _ h => h
  case hyy215 =>
    refine .inl ⟨by rfl, fun W _ => ?_⟩
    go_simp
    try with_reducible rfl
  try simp only [Act.put, List.setIfInBounds_toArray, List.set_cons_zero, List.set_cons_succ]
  refine Held3.Ways.plain (i := 8) (oi := ?oy216) ?vy216 ?hiy216 ?hsy216 ?hfy216 ?hry216 ?hQy216 ?hyy216 (fun _ _ => id) ?resty216
  case hiy216 => exact rfl
  case hsy216 => kernel_rfl
  case hfy216 => kernel_rfl
  case hry216 => kernel_rfl
  case hQy216 => exact fun _ _ _ h => h
  case hyy216 =>
    refine .inl ⟨by rfl, fun W _ => ?_⟩
    go_simp
    try with_reducible rfl
  try simp only [Act.put, List.setIfInBounds_toArray, List.set_cons_zero, List.set_cons_succ]
  refine Held3.Ways.plain (i := 9) (oi := ?oy217) ?vy217 ?hiy217 ?hsy217 ?hfy217 ?hry217 ?hQy217 ?hyy217 (fun _ _ => id) ?resty217
  case hiy217 => exact rfl
  case hsy217 => kernel_rfl
  case hfy217 => kernel_rfl
  case hry217 => kernel_rfl
  case hQy217 => exact fun _ _ _ h => h
  case hyy217 =>
    refine .inl ⟨by rfl, fun W _ => ?_⟩
    go_simp
    try with_reducible rfl
  try simp only [Act.put, List.setIfInBounds_toArray, List.set_cons_zero, List.set_cons_succ]
  refine Held3.Ways.plain (i := 10) (oi := ?oy218) ?vy218 ?hiy218 ?hsy218 ?hfy218 ?hry218 ?hQy218 ?hyy218 (fun _ _ => id) ?resty218
  case hiy218 => exact rfl
  case hsy218 => kernel_rfl
  case hfy218 => kernel_rfl
  case hry218 => kernel_rfl
  case hQy218 => exact fun _ _ _ h => h
  case hyy218 =>
    refine .inl ⟨by rfl, fun W _ => ?_⟩
    go_simp
    try with_reducible rfl
  try simp only [Act.put, List.setIfInBounds_toArray, List.set_cons_zero, List.set_cons_succ]
  refine Held3.Ways.take (i := 11) (oi := ?oy219) (fun W : World => W.heap = D2.heap) (fun _ => true) ?vy219 ?hiy219 ?hsy219 ?hfy219 ?hlwy219 ?hry219 ?hQy219 rfl ?hyy219 (fun _ _ _ h _ => h) (fun _ _ => id) ?resty219
  case hiy219 => exact rfl
  case hsy219 => kernel_rfl
  case hfy219 => kernel_rfl
  case hlwy219 => kernel_rfl
  case hry219 => kernel_rfl
  case hQy219 => exact fun _ _ _ h => h
  case hyy219 =>
    refine .inl ⟨by rfl, fun W hW => ?_⟩
    obtain ⟨n0, n1, n2, n3, n4, n5, n6⟩ := row7_facts (show W.heap[w.heap.size + 1]? = some (.cells #[.int .i64 1, .int .i64 2, .int .i64 0, .string vl, .bool hs, .int .u64 7, .int .i64 0] 32 (0, 0)) by rw [hW]; exact HD2N.out)
    obtain ⟨g0, g1, g2, g3, g4, g5, g6, g7, g8, g9⟩ := row9_facts (show W.heap[gs]? = some (.cells #[.int .i64 1, .int .i64 2, .int .i64 3, .string k, .string v, .bool true, .int .u64 7, .int .i64 0, .bool true] 84 (0, 0)) by rw [hW]; exact HD2G.out)
    go_simp
    try with_reducible rfl
  try simp only [Act.put, List.setIfInBounds_toArray, List.set_cons_zero, List.set_cons_succ]
  refine Held3.Ways.plain (i := 12) (oi := ?oy220) ?vy220 ?hiy220 ?hsy220 ?hfy220 ?hry220 ?hQy220 ?hyy220 (fun _ _ => id) ?resty220
  case hiy220 => exact rfl
  case hsy220 => kernel_rfl
  case hfy220 => kernel_rfl
  case hry220 => kernel_rfl
  case hQy220 => exact fun _ _ _ h => h
  case hyy220 =>
    refine .inl ⟨by rfl, fun W _ => ?_⟩
    go_simp
    try with_reducible rfl
  try simp only [Act.put, List.setIfInBounds_toArray, List.set_cons_zero, List.set_cons_succ]
  refine Held3.Ways.plain (i := 13) (oi := ?oy221) ?vy221 ?hiy221 ?hsy221 ?hfy221 ?hry221 ?hQy221 ?hyy221 (fun _ _ => id) ?resty221
  case hiy221 => exact rfl
  case hsy221 => kernel_rfl
  case hfy221 => kernel_rfl
  case hry221 => kernel_rfl
  case hQy221 => exact fun _ _ _ h => h
  case hyy221 =>
    refine .inl ⟨by rfl, fun W _ => ?_⟩
    go_simp
    try with_reducible rfl
  try simp only [Act.put, List.setIfInBounds_toArray, List.set_cons_zero, List.set_cons_succ]
  refine Held3.Ways.plain (i := 14) (oi := ?oy222) ?vy222 ?hiy222 ?hsy222 ?hfy222 ?hry222 ?hQy222 ?hyy222 (fun _ _ => id) ?resty222
  case hiy222 => exact rfl
  case hsy222 => kernel_rfl
  case hfy222 => kernel_rfl
  case hry222 => kernel_rfl
  case hQy222 => exact fun _ _ _ h => h
  case hyy222 =>
    refine .inl ⟨by rfl, fun W _ => ?_⟩
    go_simp
    try with_reducible rfl
  try simp only [Act.put, List.setIfInBounds_toArray, List.set_cons_zero, List.set_cons_succ]
  refine Held3.Ways.plain (i := 15) (oi := ?oy223) ?vy223 ?hiy223 ?hsy223 ?hfy223 ?hry223 ?hQy223 ?hyy223 (fun _ _ => id) ?resty223
  case hiy223 => exact rfl
  case hsy223 => kernel_rfl
  case hfy223 => kernel_rfl
  case hry223 => kernel_rfl
  case hQy223 => exact fun _ _ _ h => h
  case hyy223 =>
    refine .inl ⟨by rfl, fun W _ => ?_⟩
    go_simp
    try with_reducible rfl
  try simp only [Act.put, List.setIfInBounds_toArray, List.set_cons_zero, List.set_cons_succ]
  refine Held3.Ways.take (i := 16) (oi := ?oy224) (fun W : World => W.heap = D2.heap) (fun _ => true) ?vy224 ?hiy224 ?hsy224 ?hfy224 ?hlwy224 ?hry224 ?hQy224 rfl ?hyy224 (fun _ _ _ h _ => h) (fun _ _ => id) ?resty224
  case hiy224 => exact rfl
  case hsy224 => kernel_rfl
  case hfy224 => kernel_rfl
  case hlwy224 => kernel_rfl
  case hry224 => kernel_rfl
  case hQy224 => exact fun _ _ _ h => h
  case hyy224 =>
    refine .inl ⟨by rfl, fun W hW => ?_⟩
    obtain ⟨n0, n1, n2, n3, n4, n5, n6⟩ := row7_facts (show W.heap[w.heap.size + 1]? = some (.cells #[.int .i64 1, .int .i64 2, .int .i64 0, .string vl, .bool hs, .int .u64 7, .int .i64 0] 32 (0, 0)) by rw [hW]; exact HD2N.out)
    obtain ⟨g0, g1, g2, g3, g4, g5, g6, g7, g8, g9⟩ := row9_facts (show W.heap[gs]? = some (.cells #[.int .i64 1, .int .i64 2, .int .i64 3, .string k, .string v, .bool true, .int .u64 7, .int .i64 0, .bool true] 84 (0, 0)) by rw [hW]; exact HD2G.out)
    go_simp
    try with_reducible rfl
  try simp only [Act.put, List.setIfInBounds_toArray, List.set_cons_zero, List.set_cons_succ]
  refine Held3.Ways.plain (i := 17) (oi := ?oy225) ?vy225 ?hiy225 ?hsy225 ?hfy225 ?hry225 ?hQy225 ?hyy225 (fun _ _ => id) ?resty225
  case hiy225 => exact rfl
  case hsy225 => kernel_rfl
  case hfy225 => kernel_rfl
  case hry225 => kernel_rfl
  case hQy225 => exact fun _ _ _ h => h
  case hyy225 =>
    refine .inl ⟨by rfl, fun W _ => ?_⟩
    go_simp
    try with_reducible rfl
  try simp only [Act.put, List.setIfInBounds_toArray, List.set_cons_zero, List.set_cons_succ]
  refine Held3.Ways.plain (i := 18) (oi := ?oy226) ?vy226 ?hiy226 ?hsy226 ?hfy226 ?hry226 ?hQy226 ?hyy226 (fun _ _ => id) ?resty226
  case hiy226 => exact rfl
  case hsy226 => kernel_rfl
  case hfy226 => kernel_rfl
  case hry226 => kernel_rfl
  case hQy226 => exact fun _ _ _ h => h
  case hyy226 =>
    refine .inl ⟨by rfl, fun W _ => ?_⟩
    go_simp
    try with_reducible rfl
  try simp only [Act.put, List.setIfInBounds_toArray, List.set_cons_zero, List.set_cons_succ]
  refine Held3.Ways.done (by kernel_rfl) ?_ _
  obtain ⟨g0, g1, g2, g3, g4, g5, g6, g7, g8, g9⟩ := row9_facts (HD2G.out)
  go_upto_region 4 with fail
  clear g0 g1 g2 g3 g4 g5 g6 g7 g8 g9
  obtain ⟨X3, hX⟩ : ∃ X, X = (D2.setCell ⟨gs, 5, none⟩ (.bool false)) := ⟨_, rfl⟩
  rw [← hX]
  have hX2 : X3 = sets D2 gs [(5, .bool false)] := hX
  clear hX
  have HX3M : Hid (X3.heap[gm]? = some (.cells #[.slice (some ⟨A, 0, none⟩) 1 c, .map (some ba), .map (some bs)] 67 (0, 0))) := Lib.hid (by rw [hX2, sets_ne _ _ (ne_types HD2M.out HD2G.out (by decide))]; exact HD2M.out)
  have HX3G : Hid (X3.heap[gs]? = some (.cells #[.int .i64 1, .int .i64 2, .int .i64 3, .string k, .string v, .bool false, .int .u64 7, .int .i64 0, .bool true] 84 (0, 0))) := Lib.hid (by rw [hX2]; have h9 := sets_row [(5, .bool false)] D2 HD2G.out; simpa only [List.foldl_cons, List.foldl_nil, List.setIfInBounds_toArray, List.set_cons_zero, List.set_cons_succ] using h9)
  have HX3T : Hid (X3.heap[A]? = some (.cells (.int .u64 7 :: .int .i64 0 :: .int .i64 1 :: .int .i64 0 :: .bool false :: .bool false :: .slice none 0 0 :: l).toArray 39 (0, 0))) := Lib.hid (by rw [hX2, sets_ne _ _ (ne_types HD2T.out HD2G.out (by decide))]; exact HD2T.out)
  have HX3P : Hid (X3.heap[w.heap.size]? = some (.cells #[.int .i64 0, .int .i64 1] 71 (0, 0))) := Lib.hid (by rw [hX2, sets_ne _ _ (ne_types HD2P.out HD2G.out (by decide))]; exact HD2P.out)
  have HX3N : Hid (X3.heap[w.heap.size + 1]? = some (.cells #[.int .i64 1, .int .i64 2, .int .i64 0, .string vl, .bool hs, .int .u64 7, .int .i64 0] 32 (0, 0))) := Lib.hid (by rw [hX2, sets_ne _ _ (ne_types HD2N.out HD2G.out (by decide))]; exact HD2N.out)
  have HX3S : Hid (SessAt X3 bs [((0, 1), gs)]) := Lib.hid (MapAt.kept HD2S.out (by rw [hX2, sets_ne _ _ (map_ne_row HD2S.out HD2G.out)]))
  have HX3A : Hid (AtAt X3 ba [((7, 0), 0)]) := Lib.hid (MapAt.kept HD2A.out (by rw [hX2, sets_ne _ _ (map_ne_row HD2A.out HD2G.out)]))
  have HX3F : Hid (Below B w X3) := Lib.hid (by rw [hX2]; exact sets_below _ HD2F.out HLG.out)
  have HX3Z : Hid (w.heap.size + 2 ≤ X3.heap.size) := Lib.hid (by rw [hX2, sets_size]; exact HD2Z.out)
  clear HD2M HD2G HD2T HD2P HD2N HD2S HD2A HD2F HD2Z hX2
  obtain ⟨n0, n1, n2, n3, n4, n5, n6⟩ := row7_facts (HX3N.out)
  obtain ⟨g0, g1, g2, g3, g4, g5, g6, g7, g8, g9⟩ := row9_facts (HX3G.out)
  go_upto_region 10 with fail
  clear n0 n1 n2 n3 n4 n5 n6 g0 g1 g2 g3 g4 g5 g6 g7 g8 g9
  obtain ⟨D4, hD⟩ : ∃ D, D = X3.drew := ⟨_, rfl⟩
  have hDh : D4.heap = X3.heap := by rw [hD]; rfl
  have hDo : D4.os = X3.os := by rw [hD]; rfl
  have hDt : D4.tape = X3.tape := by rw [hD]; rfl
  have hDp : D4.output = X3.output := by rw [hD]; rfl
  have HD4M : Hid (D4.heap[gm]? = some (.cells #[.slice (some ⟨A, 0, none⟩) 1 c, .map (some ba), .map (some bs)] 67 (0, 0))) := Lib.hid (by rw [hDh]; exact HX3M.out)
  have HD4G : Hid (D4.heap[gs]? = some (.cells #[.int .i64 1, .int .i64 2, .int .i64 3, .string k, .string v, .bool false, .int .u64 7, .int .i64 0, .bool true] 84 (0, 0))) := Lib.hid (by rw [hDh]; exact HX3G.out)
  have HD4T : Hid (D4.heap[A]? = some (.cells (.int .u64 7 :: .int .i64 0 :: .int .i64 1 :: .int .i64 0 :: .bool false :: .bool false :: .slice none 0 0 :: l).toArray 39 (0, 0))) := Lib.hid (by rw [hDh]; exact HX3T.out)
  have HD4P : Hid (D4.heap[w.heap.size]? = some (.cells #[.int .i64 0, .int .i64 1] 71 (0, 0))) := Lib.hid (by rw [hDh]; exact HX3P.out)
  have HD4N : Hid (D4.heap[w.heap.size + 1]? = some (.cells #[.int .i64 1, .int .i64 2, .int .i64 0, .string vl, .bool hs, .int .u64 7, .int .i64 0] 32 (0, 0))) := Lib.hid (by rw [hDh]; exact HX3N.out)
  have HD4S : Hid (SessAt D4 bs [((0, 1), gs)]) := Lib.hid (MapAt.kept HX3S.out (by rw [hDh]))
  have HD4A : Hid (AtAt D4 ba [((7, 0), 0)]) := Lib.hid (MapAt.kept HX3A.out (by rw [hDh]))
  have HD4F : Hid (Below B w D4) := Lib.hid (below_same HX3F.out hDh hDo hDt hDp)
  have HD4Z : Hid (w.heap.size + 2 ≤ D4.heap.size) := Lib.hid (by rw [hDh]; exact HX3Z.out)
  clear HX3M HX3G HX3T HX3P HX3N HX3S HX3A HX3F HX3Z hDh hDo hDt hDp
  refine Held3.ways_start (fun _ W W' => W.heap = D4.heap → W'.heap = D4.heap) (by kernel_rfl) ?_
  rw [← hD]
  clear hD
  refine Held3.Ways.plain (i := 0) (oi := ?oy327) ?vy327 ?hiy327 ?hsy327 ?hfy327 ?hry327 ?hQy327 ?hyy327 (fun _ _ => id) ?resty327
  case hiy327 => exact rfl
  case hsy327 => kernel_rfl
  case hfy327 => kernel_rfl
  case hry327 => kernel_rfl
  case hQy327 => exact fun _ _ _ h => h
  case hyy327 =>
    refine .inl ⟨by rfl, fun W _ => ?_⟩
    go_simp
    try with_reducible rfl
  try simp only [Act.put, List.setIfInBounds_toArray, List.set_cons_zero, List.set_cons_succ]
  refine Held3.Ways.plain (i := 1) (oi := ?oy328) ?vy328 ?hiy328 ?hsy328 ?hfy328 ?hry328 ?hQy328 ?hyy328 (fun _ _ => id) ?resty328
  case hiy328 => exact rfl
  case hsy328 => kernel_rfl
  case hfy328 => kernel_rfl
  case hry328 => kernel_rfl
  case hQy328 => exact fun _ _ _ h => h
  case hyy328 =>
    refine .inl ⟨by rfl, fun W _ => ?_⟩
    go_simp
    try with_reducible rfl
  try simp only [Act.put, List.setIfInBounds_toArray, List.set_cons_zero, List.set_cons_succ]
  refine Held3.Ways.plain (i := 2) (oi := ?oy329) ?vy329 ?hiy329 ?hsy329 ?hfy329 ?hry329 ?hQy329 ?hyy329 (fun _ _ => id) ?resty329
  case hiy329 => exact rfl
  case hsy329 => kernel_rfl
  case hfy329 => kernel_rfl
  case hry329 => kernel_rfl
  case hQy329 => exact fun _ _ _ h => h
  case hyy329 =>
    refine .inl ⟨by rfl, fun W _ => ?_⟩
    go_simp
    try with_reducible rfl
  try simp only [Act.put, List.setIfInBounds_toArray, List.set_cons_zero, List.set_cons_succ]
  refine Held3.Ways.take (i := 3) (oi := ?oy330) (fun W : World => W.heap = D4.heap) (fun _ => true) ?vy330 ?hiy330 ?hsy330 ?hfy330 ?hlwy330 ?hry330 ?hQy330 rfl ?hyy330 (fun _ _ _ h _ => h) (fun _ _ => id) ?resty330
  case hiy330 => exact rfl
  case hsy330 => kernel_rfl
  case hfy330 => kernel_rfl
  case hlwy330 => kernel_rfl
  case hry330 => kernel_rfl
  case hQy330 => exact fun _ _ _ h => h
  case hyy330 =>
    refine .inl ⟨by rfl, fun W hW => ?_⟩
    obtain ⟨m0, m1, m2, m3⟩ := row3_facts (show W.heap[gm]? = some (.cells #[.slice (some ⟨A, 0, none⟩) 1 c, .map (some ba), .map (some bs)] 67 (0, 0)) by rw [hW]; exact HD4M.out)
    obtain ⟨g0, g1, g2, g3, g4, g5, g6, g7, g8, g9⟩ := row9_facts (show W.heap[gs]? = some (.cells #[.int .i64 1, .int .i64 2, .int .i64 3, .string k, .string v, .bool false, .int .u64 7, .int .i64 0, .bool true] 84 (0, 0)) by rw [hW]; exact HD4G.out)
    have hlk := run_lookup (P := Try.prog) (t := 64) (e := 3) (z := .int .i64 0) km_tid Try.underlying64 (by kernel_rfl) (MapAt.kept HD4A.out (show W.heap[ba]? = D4.heap[ba]? by rw [hW])) (x := (7, 0)) rfl true
    rw [getT] at hlk
    simp only [encT, encN, Option.elim, Option.isSome] at hlk
    go_simp
    try with_reducible rfl
  try simp only [Act.put, List.setIfInBounds_toArray, List.set_cons_zero, List.set_cons_succ]
  refine Held3.Ways.plain (i := 4) (oi := ?oy331) ?vy331 ?hiy331 ?hsy331 ?hfy331 ?hry331 ?hQy331 ?hyy331 (fun _ _ => id) ?resty331
  case hiy331 => exact rfl
  case hsy331 => kernel_rfl
  case hfy331 => kernel_rfl
  case hry331 => kernel_rfl
  case hQy331 => exact fun _ _ _ h => h
  case hyy331 =>
    refine .inl ⟨by rfl, fun W _ => ?_⟩
    go_simp
    try with_reducible rfl
  try simp only [Act.put, List.setIfInBounds_toArray, List.set_cons_zero, List.set_cons_succ]
  refine Held3.Ways.plain (i := 5) (oi := ?oy332) ?vy332 ?hiy332 ?hsy332 ?hfy332 ?hry332 ?hQy332 ?hyy332 (fun _ _ => id) ?resty332
  case hiy332 => exact rfl
  case hsy332 => kernel_rfl
  case hfy332 => kernel_rfl
  case hry332 => kernel_rfl
  case hQy332 => exact fun _ _ _ h => h
  case hyy332 =>
    refine .inl ⟨by rfl, fun W _ => ?_⟩
    go_simp
    try with_reducible rfl
  try simp only [Act.put, List.setIfInBounds_toArray, List.set_cons_zero, List.set_cons_succ]
  refine Held3.Ways.plain (i := 6) (oi := ?oy333) ?vy333 ?hiy333 ?hsy333 ?hfy333 ?hry333 ?hQy333 ?hyy333 (fun _ _ => id) ?resty333
  case hiy333 => exact rfl
  case hsy333 => kernel_rfl
  case hfy333 => kernel_rfl
  case hry333 => kernel_rfl
  case hQy333 => exact fun _ _ _ h => h
  case hyy333 =>
    refine .inl ⟨by rfl, fun W _ => ?_⟩
    go_simp
    try with_reducible rfl
  try simp only [Act.put, List.setIfInBounds_toArray, List.set_cons_zero, List.set_cons_succ]
  refine Held3.Ways.take (i := 7) (oi := ?oy334) (fun W : World => W.heap = D4.heap) (fun _ => true) ?vy334 ?hiy334 ?hsy334 ?hfy334 ?hlwy334 ?hry334 ?hQy334 rfl ?hyy334 (fun _ _ _ h _ => h) (fun _ _ => id) ?resty334
  case hiy334 => exact rfl
  case hsy334 => kernel_rfl
  case hfy334 => kernel_rfl
  case hlwy334 => kernel_rfl
  case hry334 => kernel_rfl
  case hQy334 => exact fun _ _ _ h => h
  case hyy334 =>
    refine .inl ⟨by rfl, fun W hW => ?_⟩
    obtain ⟨m0, m1, m2, m3⟩ := row3_facts (show W.heap[gm]? = some (.cells #[.slice (some ⟨A, 0, none⟩) 1 c, .map (some ba), .map (some bs)] 67 (0, 0)) by rw [hW]; exact HD4M.out)
    obtain ⟨g0, g1, g2, g3, g4, g5, g6, g7, g8, g9⟩ := row9_facts (show W.heap[gs]? = some (.cells #[.int .i64 1, .int .i64 2, .int .i64 3, .string k, .string v, .bool false, .int .u64 7, .int .i64 0, .bool true] 84 (0, 0)) by rw [hW]; exact HD4G.out)
    have hlk := run_lookup (P := Try.prog) (t := 64) (e := 3) (z := .int .i64 0) km_tid Try.underlying64 (by kernel_rfl) (MapAt.kept HD4A.out (show W.heap[ba]? = D4.heap[ba]? by rw [hW])) (x := (7, 0)) rfl true
    rw [getT] at hlk
    simp only [encT, encN, Option.elim, Option.isSome] at hlk
    go_simp
    try with_reducible rfl
  try simp only [Act.put, List.setIfInBounds_toArray, List.set_cons_zero, List.set_cons_succ]
  refine Held3.Ways.take (i := 8) (oi := ?oy335) (fun W : World => W.heap = D4.heap) (fun _ => true) ?vy335 ?hiy335 ?hsy335 ?hfy335 ?hlwy335 ?hry335 ?hQy335 rfl ?hyy335 (fun _ _ _ h _ => h) (fun _ _ => id) ?resty335
  case hiy335 => exact rfl
  case hsy335 => kernel_rfl
  case hfy335 => kernel_rfl
  case hlwy335 => kernel_rfl
  case hry335 => kernel_rfl
  case hQy335 => exact fun _ _ _ h => h
  case hyy335 =>
    refine .inl ⟨by rfl, fun W hW => ?_⟩
    obtain ⟨m0, m1, m2, m3⟩ := row3_facts (show W.heap[gm]? = some (.cells #[.slice (some ⟨A, 0, none⟩) 1 c, .map (some ba), .map (some bs)] 67 (0, 0)) by rw [hW]; exact HD4M.out)
    obtain ⟨g0, g1, g2, g3, g4, g5, g6, g7, g8, g9⟩ := row9_facts (show W.heap[gs]? = some (.cells #[.int .i64 1, .int .i64 2, .int .i64 3, .string k, .string v, .bool false, .int .u64 7, .int .i64 0, .bool true] 84 (0, 0)) by rw [hW]; exact HD4G.out)
    have hlk := run_lookup (P := Try.prog) (t := 64) (e := 3) (z := .int .i64 0) km_tid Try.underlying64 (by kernel_rfl) (MapAt.kept HD4A.out (show W.heap[ba]? = D4.heap[ba]? by rw [hW])) (x := (7, 0)) rfl true
    rw [getT] at hlk
    simp only [encT, encN, Option.elim, Option.isSome] at hlk
    go_simp
    try with_reducible rfl
  try simp only [Act.put, List.setIfInBounds_toArray, List.set_cons_zero, List.set_cons_succ]
  refine Held3.Ways.plain (i := 9) (oi := ?oy336) ?vy336 ?hiy336 ?hsy336 ?hfy336 ?hry336 ?hQy336 ?hyy336 (fun _ _ => id) ?resty336
  case hiy336 => exact rfl
  case hsy336 => kernel_rfl
  case hfy336 => kernel_rfl
  case hry336 => kernel_rfl
  case hQy336 => exact fun _ _ _ h => h
  case hyy336 =>
    refine .inl ⟨by rfl, fun W _ => ?_⟩
    go_simp
    try with_reducible rfl
  try simp only [Act.put, List.setIfInBounds_toArray, List.set_cons_zero, List.set_cons_succ]
  refine Held3.Ways.plain (i := 10) (oi := ?oy337) ?vy337 ?hiy337 ?hsy337 ?hfy337 ?hry337 ?hQy337 ?hyy337 (fun _ _ => id) ?resty337
  case hiy337 => exact rfl
  case hsy337 => kernel_rfl
  case hfy337 => kernel_rfl
  case hry337 => kernel_rfl
  case hQy337 => exact fun _ _ _ h => h
  case hyy337 =>
    refine .inl ⟨by rfl, fun W _ => ?_⟩
    go_simp
    try with_reducible rfl
  try simp only [Act.put, List.setIfInBounds_toArray, List.set_cons_zero, List.set_cons_succ]
  refine Held3.Ways.plain (i := 11) (oi := ?oy338) ?vy338 ?hiy338 ?hsy338 ?hfy338 ?hry338 ?hQy338 ?hyy338 (fun _ _ => id) ?resty338
  case hiy338 => exact rfl
  case hsy338 => kernel_rfl
  case hfy338 => kernel_rfl
  case hry338 => kernel_rfl
  case hQy338 => exact fun _ _ _ h => h
  case hyy338 =>
    refine .inl ⟨by rfl, fun W _ => ?_⟩
    go_simp
    try with_reducible rfl
  try simp only [Act.put, List.setIfInBounds_toArray, List.set_cons_zero, List.set_cons_succ]
  refine Held3.Ways.plain (i := 12) (oi := ?oy339) ?vy339 ?hiy339 ?hsy339 ?hfy339 ?hry339 ?hQy339 ?hyy339 (fun _ _ => id) ?resty339
  case hiy339 => exact rfl
  case hsy339 => kernel_rfl
  case hfy339 => kernel_rfl
  case hry339 => kernel_rfl
  case hQy339 => exact fun _ _ _ h => h
  case hyy339 =>
    refine .inl ⟨by rfl, fun W _ => ?_⟩
    go_simp
    try with_reducible rfl
  try simp only [Act.put, List.setIfInBounds_toArray, List.set_cons_zero, List.set_cons_succ]
  refine Held3.Ways.plain (i := 13) (oi := ?oy340) ?vy340 ?hiy340 ?hsy340 ?hfy340 ?hry340 ?hQy340 ?hyy340 (fun _ _ => id) ?resty340
  case hiy340 => exact rfl
  case hsy340 => kernel_rfl
  case hfy340 => kernel_rfl
  case hry340 => kernel_rfl
  case hQy340 => exact fun _ _ _ h => h
  case hyy340 =>
    refine .inl ⟨by rfl, fun W _ => ?_⟩
    go_simp
    try with_reducible rfl
  try simp only [Act.put, List.setIfInBounds_toArray, List.set_cons_zero, List.set_cons_succ]
  refine Held3.Ways.done (by kernel_rfl) ?_ _
  obtain ⟨n0, n1, n2, n3, n4, n5, n6⟩ := row7_facts (HD4N.out)
  obtain ⟨g0, g1, g2, g3, g4, g5, g6, g7, g8, g9⟩ := row9_facts (HD4G.out)
  obtain ⟨m0, m1, m2, m3⟩ := row3_facts (HD4M.out)
  obtain ⟨t0, t1, t2, t3, t4, t5, t6, t7⟩ := row7l_facts (HD4T.out)
  go_wp2_with fail
  refine (fate_ok _).mono ?_
  rintro e W9 ⟨rfl, hW9⟩
  rw [hW9]
  clear hW9 W9
  go_upto_region 23 with fail
  clear n0 n1 n2 n3 n4 n5 n6 g0 g1 g2 g3 g4 g5 g6 g7 g8 g9 m0 m1 m2 m3 t0 t1 t2 t3 t4 t5 t6 t7
  obtain ⟨D5, hD⟩ : ∃ D, D = D4.drew := ⟨_, rfl⟩
  have hDh : D5.heap = D4.heap := by rw [hD]; rfl
  have hDo : D5.os = D4.os := by rw [hD]; rfl
  have hDt : D5.tape = D4.tape := by rw [hD]; rfl
  have hDp : D5.output = D4.output := by rw [hD]; rfl
  have HD5M : Hid (D5.heap[gm]? = some (.cells #[.slice (some ⟨A, 0, none⟩) 1 c, .map (some ba), .map (some bs)] 67 (0, 0))) := Lib.hid (by rw [hDh]; exact HD4M.out)
  have HD5G : Hid (D5.heap[gs]? = some (.cells #[.int .i64 1, .int .i64 2, .int .i64 3, .string k, .string v, .bool false, .int .u64 7, .int .i64 0, .bool true] 84 (0, 0))) := Lib.hid (by rw [hDh]; exact HD4G.out)
  have HD5T : Hid (D5.heap[A]? = some (.cells (.int .u64 7 :: .int .i64 0 :: .int .i64 1 :: .int .i64 0 :: .bool false :: .bool false :: .slice none 0 0 :: l).toArray 39 (0, 0))) := Lib.hid (by rw [hDh]; exact HD4T.out)
  have HD5P : Hid (D5.heap[w.heap.size]? = some (.cells #[.int .i64 0, .int .i64 1] 71 (0, 0))) := Lib.hid (by rw [hDh]; exact HD4P.out)
  have HD5N : Hid (D5.heap[w.heap.size + 1]? = some (.cells #[.int .i64 1, .int .i64 2, .int .i64 0, .string vl, .bool hs, .int .u64 7, .int .i64 0] 32 (0, 0))) := Lib.hid (by rw [hDh]; exact HD4N.out)
  have HD5S : Hid (SessAt D5 bs [((0, 1), gs)]) := Lib.hid (MapAt.kept HD4S.out (by rw [hDh]))
  have HD5A : Hid (AtAt D5 ba [((7, 0), 0)]) := Lib.hid (MapAt.kept HD4A.out (by rw [hDh]))
  have HD5F : Hid (Below B w D5) := Lib.hid (below_same HD4F.out hDh hDo hDt hDp)
  have HD5Z : Hid (w.heap.size + 2 ≤ D5.heap.size) := Lib.hid (by rw [hDh]; exact HD4Z.out)
  clear HD4M HD4G HD4T HD4P HD4N HD4S HD4A HD4F HD4Z hDh hDo hDt hDp
  refine Held3.ways_start (fun j W W' => j ≠ 20 → Below D5.heap.size D5 W → Below D5.heap.size D5 W') (by kernel_rfl) ?_
  rw [← hD]
  clear hD
  refine Held3.Ways.plain (i := 0) (oi := ?oy441) ?vy441 ?hiy441 ?hsy441 ?hfy441 ?hry441 ?hQy441 ?hyy441 (fun _ _ _ h => h) ?resty441
  case hiy441 => exact rfl
  case hsy441 => kernel_rfl
  case hfy441 => kernel_rfl
  case hry441 => kernel_rfl
  case hQy441 => exact fun _ _ _ h => h
  case hyy441 =>
    refine .inl ⟨by rfl, fun W _ => ?_⟩
    go_simp
    try with_reducible rfl
  try simp only [Act.put, List.setIfInBounds_toArray, List.set_cons_zero, List.set_cons_succ]
  refine Held3.Ways.plain (i := 1) (oi := ?oy442) ?vy442 ?hiy442 ?hsy442 ?hfy442 ?hry442 ?hQy442 ?hyy442 (fun _ _ _ h => h) ?resty442
  case hiy442 => exact rfl
  case hsy442 => kernel_rfl
  case hfy442 => kernel_rfl
  case hry442 => kernel_rfl
  case hQy442 => exact fun _ _ _ h => h
  case hyy442 =>
    refine .inl ⟨by rfl, fun W _ => ?_⟩
    go_simp
    try with_reducible rfl
  try simp only [Act.put, List.setIfInBounds_toArray, List.set_cons_zero, List.set_cons_succ]
  refine Held3.Ways.plain (i := 2) (oi := ?oy443) ?vy443 ?hiy443 ?hsy443 ?hfy443 ?hry443 ?hQy443 ?hyy443 (fun _ _ _ h => h) ?resty443
  case hiy443 => exact rfl
  case hsy443 => kernel_rfl
  case hfy443 => kernel_rfl
  case hry443 => kernel_rfl
  case hQy443 => exact fun _ _ _ h => h
  case hyy443 =>
    refine .inl ⟨by rfl, fun W _ => ?_⟩
    go_simp
    try with_reducible rfl
  try simp only [Act.put, List.setIfInBounds_toArray, List.set_cons_zero, List.set_cons_succ]
  refine Held3.Ways.plain (i := 3) (oi := ?oy444) ?vy444 ?hiy444 ?hsy444 ?hfy444 ?hry444 ?hQy444 ?hyy444 (fun _ _ _ h => h) ?resty444
  case hiy444 => exact rfl
  case hsy444 => kernel_rfl
  case hfy444 => kernel_rfl
  case hry444 => kernel_rfl
  case hQy444 => exact fun _ _ _ h => h
  case hyy444 =>
    refine .inl ⟨by rfl, fun W _ => ?_⟩
    go_simp
    try with_reducible rfl
  try simp only [Act.put, List.setIfInBounds_toArray, List.set_cons_zero, List.set_cons_succ]
  refine Held3.Ways.take (i := 4) (oi := ?oy445) (fun W : World => Below D5.heap.size D5 W) (fun j => j != 20) ?vy445 ?hiy445 ?hsy445 ?hfy445 ?hlwy445 ?hry445 ?hQy445 (Below.refl _ _) ?hyy445 (fun j W W' (h : j ≠ 20 → Below D5.heap.size D5 W → Below D5.heap.size D5 W') e hs => h (by simpa using e) hs) (fun _ _ _ h => h) ?resty445
  case hiy445 => exact rfl
  case hsy445 => kernel_rfl
  case hfy445 => kernel_rfl
  case hlwy445 => kernel_rfl
  case hry445 => kernel_rfl
  case hQy445 => exact fun _ _ _ h => h
  case hyy445 =>
    refine .inl ⟨by rfl, fun W hW => ?_⟩
    obtain ⟨t0, t1, t2, t3, t4, t5, t6, t7⟩ := row7l_facts (show W.heap[A]? = some (.cells (.int .u64 7 :: .int .i64 0 :: .int .i64 1 :: .int .i64 0 :: .bool false :: .bool false :: .slice none 0 0 :: l).toArray 39 (0, 0)) from (hW.block _ (Array.getElem?_eq_some_iff.1 HD5T.out).1).trans HD5T.out)
    obtain ⟨g0, g1, g2, g3, g4, g5, g6, g7, g8, g9⟩ := row9_facts (show W.heap[gs]? = some (.cells #[.int .i64 1, .int .i64 2, .int .i64 3, .string k, .string v, .bool false, .int .u64 7, .int .i64 0, .bool true] 84 (0, 0)) from (hW.block _ (Array.getElem?_eq_some_iff.1 HD5G.out).1).trans HD5G.out)
    go_simp
    try with_reducible rfl
  try simp only [Act.put, List.setIfInBounds_toArray, List.set_cons_zero, List.set_cons_succ]
  refine Held3.Ways.plain (i := 5) (oi := ?oy446) ?vy446 ?hiy446 ?hsy446 ?hfy446 ?hry446 ?hQy446 ?hyy446 (fun _ _ _ h => h) ?resty446
  case hiy446 => exact rfl
  case hsy446 => kernel_rfl
  case hfy446 => kernel_rfl
  case hry446 => kernel_rfl
  case hQy446 => exact fun _ _ _ h => h
  case hyy446 =>
    refine .inl ⟨by rfl, fun W _ => ?_⟩
    go_simp
    try with_reducible rfl
  try simp only [Act.put, List.setIfInBounds_toArray, List.set_cons_zero, List.set_cons_succ]
  refine Held3.Ways.plain (i := 6) (oi := ?oy447) ?vy447 ?hiy447 ?hsy447 ?hfy447 ?hry447 ?hQy447 ?hyy447 (fun _ _ _ h => h) ?resty447
  case hiy447 => exact rfl
  case hsy447 => kernel_rfl
  case hfy447 => kernel_rfl
  case hry447 => kernel_rfl
  case hQy447 => exact fun _ _ _ h => h
  case hyy447 =>
    refine .inl ⟨by rfl, fun W _ => ?_⟩
    go_simp
    try with_reducible rfl
  try simp only [Act.put, List.setIfInBounds_toArray, List.set_cons_zero, List.set_cons_succ]
  refine Held3.Ways.plain (i := 7) (oi := ?oy448) ?vy448 ?hiy448 ?hsy448 ?hfy448 ?hry448 ?hQy448 ?hyy448 (fun _ _ _ h => h) ?resty448
  case hiy448 => exact rfl
  case hsy448 => kernel_rfl
  case hfy448 => kernel_rfl
  case hry448 => kernel_rfl
  case hQy448 => exact fun _ _ _ h => h
  case hyy448 =>
    refine .inl ⟨by rfl, fun W _ => ?_⟩
    go_simp
    try with_reducible rfl
  try simp only [Act.put, List.setIfInBounds_toArray, List.set_cons_zero, List.set_cons_succ]
  refine Held3.Ways.plain (i := 8) (oi := ?oy449) ?vy449 ?hiy449 ?hsy449 ?hfy449 ?hry449 ?hQy449 ?hyy449 (fun _ _ _ h => h) ?resty449
  case hiy449 => exact rfl
  case hsy449 => kernel_rfl
  case hfy449 => kernel_rfl
  case hry449 => kernel_rfl
  case hQy449 => exact fun _ _ _ h => h
  case hyy449 =>
    refine .inl ⟨by rfl, fun W _ => ?_⟩
    go_simp
    try with_reducible rfl
  try simp only [Act.put, List.setIfInBounds_toArray, List.set_cons_zero, List.set_cons_succ]
  refine Held3.Ways.take (i := 9) (oi := ?oy450) (fun W : World => Below D5.heap.size D5 W) (fun j => j != 20) ?vy450 ?hiy450 ?hsy450 ?hfy450 ?hlwy450 ?hry450 ?hQy450 (Below.refl _ _) ?hyy450 (fun j W W' (h : j ≠ 20 → Below D5.heap.size D5 W → Below D5.heap.size D5 W') e hs => h (by simpa using e) hs) (fun _ _ _ h => h) ?resty450
  case hiy450 => exact rfl
  case hsy450 => kernel_rfl
  case hfy450 => kernel_rfl
  case hlwy450 => kernel_rfl
  case hry450 => kernel_rfl
  case hQy450 => exact fun _ _ _ h => h
  case hyy450 =>
    refine .inl ⟨by rfl, fun W hW => ?_⟩
    obtain ⟨t0, t1, t2, t3, t4, t5, t6, t7⟩ := row7l_facts (show W.heap[A]? = some (.cells (.int .u64 7 :: .int .i64 0 :: .int .i64 1 :: .int .i64 0 :: .bool false :: .bool false :: .slice none 0 0 :: l).toArray 39 (0, 0)) from (hW.block _ (Array.getElem?_eq_some_iff.1 HD5T.out).1).trans HD5T.out)
    obtain ⟨g0, g1, g2, g3, g4, g5, g6, g7, g8, g9⟩ := row9_facts (show W.heap[gs]? = some (.cells #[.int .i64 1, .int .i64 2, .int .i64 3, .string k, .string v, .bool false, .int .u64 7, .int .i64 0, .bool true] 84 (0, 0)) from (hW.block _ (Array.getElem?_eq_some_iff.1 HD5G.out).1).trans HD5G.out)
    go_simp
    try with_reducible rfl
  try simp only [Act.put, List.setIfInBounds_toArray, List.set_cons_zero, List.set_cons_succ]
  refine Held3.Ways.plain (i := 10) (oi := ?oy451) ?vy451 ?hiy451 ?hsy451 ?hfy451 ?hry451 ?hQy451 ?hyy451 (fun _ _ _ h => h) ?resty451
  case hiy451 => exact rfl
  case hsy451 => kernel_rfl
  case hfy451 => kernel_rfl
  case hry451 => kernel_rfl
  case hQy451 => exact fun _ _ _ h => h
  case hyy451 =>
    refine .inl ⟨by rfl, fun W _ => ?_⟩
    go_simp
    try with_reducible rfl
  try simp only [Act.put, List.setIfInBounds_toArray, List.set_cons_zero, List.set_cons_succ]
  refine Held3.Ways.plain (i := 11) (oi := ?oy452) ?vy452 ?hiy452 ?hsy452 ?hfy452 ?hry452 ?hQy452 ?hyy452 (fun _ _ _ h => h) ?resty452
  case hiy452 => exact rfl
  case hsy452 => kernel_rfl
  case hfy452 => kernel_rfl
  case hry452 => kernel_rfl
  case hQy452 => exact fun _ _ _ h => h
  case hyy452 =>
    refine .inl ⟨by rfl, fun W _ => ?_⟩
    go_simp
    try with_reducible rfl
  try simp only [Act.put, List.setIfInBounds_toArray, List.set_cons_zero, List.set_cons_succ]
  refine Held3.Ways.plain (i := 12) (oi := ?oy453) ?vy453 ?hiy453 ?hsy453 ?hfy453 ?hry453 ?hQy453 ?hyy453 (fun _ _ _ h => h) ?resty453
  case hiy453 => exact rfl
  case hsy453 => kernel_rfl
  case hfy453 => kernel_rfl
  case hry453 => kernel_rfl
  case hQy453 => exact fun _ _ _ h => h
  case hyy453 =>
    refine .inl ⟨by rfl, fun W _ => ?_⟩
    go_simp
    try with_reducible rfl
  try simp only [Act.put, List.setIfInBounds_toArray, List.set_cons_zero, List.set_cons_succ]
  refine Held3.Ways.plain (i := 13) (oi := ?oy454) ?vy454 ?hiy454 ?hsy454 ?hfy454 ?hry454 ?hQy454 ?hyy454 (fun _ _ _ h => h) ?resty454
  case hiy454 => exact rfl
  case hsy454 => kernel_rfl
  case hfy454 => kernel_rfl
  case hry454 => kernel_rfl
  case hQy454 => exact fun _ _ _ h => h
  case hyy454 =>
    refine .inl ⟨by rfl, fun W _ => ?_⟩
    go_simp
    try with_reducible rfl
  try simp only [Act.put, List.setIfInBounds_toArray, List.set_cons_zero, List.set_cons_succ]
  refine Held3.Ways.take (i := 14) (oi := ?oy455) (fun W : World => Below D5.heap.size D5 W) (fun j => j != 20) ?vy455 ?hiy455 ?hsy455 ?hfy455 ?hlwy455 ?hry455 ?hQy455 (Below.refl _ _) ?hyy455 (fun j W W' (h : j ≠ 20 → Below D5.heap.size D5 W → Below D5.heap.size D5 W') e hs => h (by simpa using e) hs) (fun _ _ _ h => h) ?resty455
  case hiy455 => exact rfl
  case hsy455 => kernel_rfl
  case hfy455 => kernel_rfl
  case hlwy455 => kernel_rfl
  case hry455 => kernel_rfl
  case hQy455 => exact fun _ _ _ h => h
  case hyy455 =>
    refine .inl ⟨by rfl, fun W hW => ?_⟩
    obtain ⟨t0, t1, t2, t3, t4, t5, t6, t7⟩ := row7l_facts (show W.heap[A]? = some (.cells (.int .u64 7 :: .int .i64 0 :: .int .i64 1 :: .int .i64 0 :: .bool false :: .bool false :: .slice none 0 0 :: l).toArray 39 (0, 0)) from (hW.block _ (Array.getElem?_eq_some_iff.1 HD5T.out).1).trans HD5T.out)
    obtain ⟨g0, g1, g2, g3, g4, g5, g6, g7, g8, g9⟩ := row9_facts (show W.heap[gs]? = some (.cells #[.int .i64 1, .int .i64 2, .int .i64 3, .string k, .string v, .bool false, .int .u64 7, .int .i64 0, .bool true] 84 (0, 0)) from (hW.block _ (Array.getElem?_eq_some_iff.1 HD5G.out).1).trans HD5G.out)
    go_simp
    try with_reducible rfl
  try simp only [Act.put, List.setIfInBounds_toArray, List.set_cons_zero, List.set_cons_succ]
  refine Held3.Ways.plain (i := 15) (oi := ?oy456) ?vy456 ?hiy456 ?hsy456 ?hfy456 ?hry456 ?hQy456 ?hyy456 (fun _ _ _ h => h) ?resty456
  case hiy456 => exact rfl
  case hsy456 => kernel_rfl
  case hfy456 => kernel_rfl
  case hry456 => kernel_rfl
  case hQy456 => exact fun _ _ _ h => h
  case hyy456 =>
    refine .inl ⟨by rfl, fun W _ => ?_⟩
    go_simp
    try with_reducible rfl
  try simp only [Act.put, List.setIfInBounds_toArray, List.set_cons_zero, List.set_cons_succ]
  refine Held3.Ways.one (i := 16) (by rfl) (by kernel_rfl) (fun K hK => ?_)
  go_simp
  refine hK.out _ _ (fun _ h => h.alloc h.size _) ?_
  clear hK K
  try simp only [Act.put, List.setIfInBounds_toArray, List.set_cons_zero, List.set_cons_succ]
  obtain ⟨G, hG⟩ : ∃ G, G = D5.alloc (.cells #[.int .i64 3, .string k, .string v, .bool false] 54) := ⟨_, rfl⟩
  rw [← hG]
  have hGs : G.heap.size = D5.heap.size + 1 := by rw [hG]; simp
  have hGr := heap_alloc_new D5 (.cells #[.int .i64 3, .string k, .string v, .bool false] 54)
  rw [← hG] at hGr
  have hGb : Below D5.heap.size D5 G := by rw [hG]; exact (Below.refl _ _).alloc (Nat.le_refl _) _
  clear hG
  have hrun := app_new (ty := 37) (t := 37) Try.underlying37 ty_op G (g := D5.heap.size) (news := [.int .i64 3, .string k, .string v, .bool false]) rfl (fun j u hu => row_at hGr (by simpa using hu)) (by decide)
  have HRUN := Lib.hid hrun
  have HGB := Lib.hid hGb
  have HGS := Lib.hid hGs
  clear hrun hGb hGs hGr
  refine Held3.Ways.one (i := 17) (by rfl) (by kernel_rfl) (fun K hK => ?_)
  refine step_append rfl _ _ 37 37 rfl (by simp [Act.eval, Act.put]) (by simp [Act.eval, Act.put]) HRUN.out ?_
  rintro v1 W2 ⟨cn, ln, rfl, hr2, hb2⟩
  have HR2 := Lib.hid hr2
  have HB2 := Lib.hid hb2
  clear hr2 hb2
  refine hK.out _ _ (fun _ h => below_then h h.size HB2.out) ?_
  clear hK K HRUN
  try simp only [Act.put, List.setIfInBounds_toArray, List.set_cons_zero, List.set_cons_succ]
  have hb3 : Below D5.heap.size D5 W2 := below_then HGB.out HGB.out.size HB2.out
  obtain ⟨go, hgA⟩ : ∃ g, g = G.heap.size := ⟨_, rfl⟩
  rw [← hgA] at HR2 ⊢
  have HLO : Hid (B ≤ go) := Lib.hid (by rw [hgA, HGS.out]; exact Nat.le_trans HB0.out (by have := HD5Z.out; omega))
  clear hgA HGS HGB HB2 G
  obtain ⟨Y6, hY⟩ : ∃ Y, Y = W2 := ⟨_, rfl⟩
  rw [← hY] at hb3 HR2 ⊢
  clear hY W2
  have HY6M : Hid (Y6.heap[gm]? = some (.cells #[.slice (some ⟨A, 0, none⟩) 1 c, .map (some ba), .map (some bs)] 67 (0, 0))) := Lib.hid ((hb3.block _ (Array.getElem?_eq_some_iff.1 HD5M.out).1).trans HD5M.out)
  have HY6G : Hid (Y6.heap[gs]? = some (.cells #[.int .i64 1, .int .i64 2, .int .i64 3, .string k, .string v, .bool false, .int .u64 7, .int .i64 0, .bool true] 84 (0, 0))) := Lib.hid ((hb3.block _ (Array.getElem?_eq_some_iff.1 HD5G.out).1).trans HD5G.out)
  have HY6T : Hid (Y6.heap[A]? = some (.cells (.int .u64 7 :: .int .i64 0 :: .int .i64 1 :: .int .i64 0 :: .bool false :: .bool false :: .slice none 0 0 :: l).toArray 39 (0, 0))) := Lib.hid ((hb3.block _ (Array.getElem?_eq_some_iff.1 HD5T.out).1).trans HD5T.out)
  have HY6P : Hid (Y6.heap[w.heap.size]? = some (.cells #[.int .i64 0, .int .i64 1] 71 (0, 0))) := Lib.hid ((hb3.block _ (Array.getElem?_eq_some_iff.1 HD5P.out).1).trans HD5P.out)
  have HY6N : Hid (Y6.heap[w.heap.size + 1]? = some (.cells #[.int .i64 1, .int .i64 2, .int .i64 0, .string vl, .bool hs, .int .u64 7, .int .i64 0] 32 (0, 0))) := Lib.hid ((hb3.block _ (Array.getElem?_eq_some_iff.1 HD5N.out).1).trans HD5N.out)
  have HY6S : Hid (SessAt Y6 bs [((0, 1), gs)]) := Lib.hid (MapAt.below HD5S.out hb3)
  have HY6A : Hid (AtAt Y6 ba [((7, 0), 0)]) := Lib.hid (MapAt.below HD5A.out hb3)
  have HY6F : Hid (Below B w Y6) := Lib.hid (below_then HD5F.out (Nat.le_trans HB0.out (by have := HD5Z.out; omega)) hb3)
  have HY6Z : Hid (w.heap.size + 2 ≤ Y6.heap.size) := Lib.hid (by have := HD5Z.out; have := hb3.size; omega)
  clear HD5M HD5G HD5T HD5P HD5N HD5S HD5A HD5F HD5Z hb3
  have HY6O : Hid (Y6.heap[go]? = some (.cells (.int .i64 3 :: .string k :: .string v :: .bool false :: ln).toArray 54 (0, 0))) := HR2
  clear HR2
  refine Held3.Ways.plain (i := 18) (oi := ?oy657) ?vy657 ?hiy657 ?hsy657 ?hfy657 ?hry657 ?hQy657 ?hyy657 (fun _ _ _ h => h) ?resty657
  case hiy657 => exact rfl
  case hsy657 => kernel_rfl
  case hfy657 => kernel_rfl
  case hry657 => kernel_rfl
  case hQy657 => exact fun _ _ _ h => h
  case hyy657 =>
    refine .inl ⟨by rfl, fun W _ => ?_⟩
    go_simp
    try with_reducible rfl
  try simp only [Act.put, List.setIfInBounds_toArray, List.set_cons_zero, List.set_cons_succ]
  refine Held3.Ways.plain (i := 19) (oi := ?oy658) ?vy658 ?hiy658 ?hsy658 ?hfy658 ?hry658 ?hQy658 ?hyy658 (fun _ _ _ h => h) ?resty658
  case hiy658 => exact rfl
  case hsy658 => kernel_rfl
  case hfy658 => kernel_rfl
  case hry658 => kernel_rfl
  case hQy658 => exact fun _ _ _ h => h
  case hyy658 =>
    refine .inl ⟨by rfl, fun W _ => ?_⟩
    go_simp
    try with_reducible rfl
  try simp only [Act.put, List.setIfInBounds_toArray, List.set_cons_zero, List.set_cons_succ]
  obtain ⟨t0, t1, t2, t3, t4, t5, t6, t7⟩ := row7l_facts (HY6T.out)
  refine Held3.Ways.one (i := 20) (by rfl) (by kernel_rfl) (fun K hK => ?_)
  go_simp
  refine hK.out _ _ (fun h => absurd rfl h) ?_
  clear hK K
  try simp only [Act.put, List.setIfInBounds_toArray, List.set_cons_zero, List.set_cons_succ]
  refine Held3.Ways.done (by kernel_rfl) ?_ _
  clear t0 t1 t2 t3 t4 t5 t6 t7
  obtain ⟨X7, hX⟩ : ∃ X, X = (Y6.setCell ⟨A, 6, none⟩ (.slice (some ⟨go, 0, none⟩) 1 cn)) := ⟨_, rfl⟩
  rw [← hX]
  have hX2 : X7 = sets Y6 A [(6, .slice (some ⟨go, 0, none⟩) 1 cn)] := hX
  clear hX
  have HX7M : Hid (X7.heap[gm]? = some (.cells #[.slice (some ⟨A, 0, none⟩) 1 c, .map (some ba), .map (some bs)] 67 (0, 0))) := Lib.hid (by rw [hX2, sets_ne _ _ (ne_types HY6M.out HY6T.out (by decide))]; exact HY6M.out)
  have HX7G : Hid (X7.heap[gs]? = some (.cells #[.int .i64 1, .int .i64 2, .int .i64 3, .string k, .string v, .bool false, .int .u64 7, .int .i64 0, .bool true] 84 (0, 0))) := Lib.hid (by rw [hX2, sets_ne _ _ (ne_types HY6G.out HY6T.out (by decide))]; exact HY6G.out)
  have HX7T : Hid (X7.heap[A]? = some (.cells (.int .u64 7 :: .int .i64 0 :: .int .i64 1 :: .int .i64 0 :: .bool false :: .bool false :: .slice (some ⟨go, 0, none⟩) 1 cn :: l).toArray 39 (0, 0))) := Lib.hid (by rw [hX2]; have h9 := sets_row [(6, .slice (some ⟨go, 0, none⟩) 1 cn)] Y6 HY6T.out; simpa only [List.foldl_cons, List.foldl_nil, List.setIfInBounds_toArray, List.set_cons_zero, List.set_cons_succ] using h9)
  have HX7P : Hid (X7.heap[w.heap.size]? = some (.cells #[.int .i64 0, .int .i64 1] 71 (0, 0))) := Lib.hid (by rw [hX2, sets_ne _ _ (ne_types HY6P.out HY6T.out (by decide))]; exact HY6P.out)
  have HX7N : Hid (X7.heap[w.heap.size + 1]? = some (.cells #[.int .i64 1, .int .i64 2, .int .i64 0, .string vl, .bool hs, .int .u64 7, .int .i64 0] 32 (0, 0))) := Lib.hid (by rw [hX2, sets_ne _ _ (ne_types HY6N.out HY6T.out (by decide))]; exact HY6N.out)
  have HX7O : Hid (X7.heap[go]? = some (.cells (.int .i64 3 :: .string k :: .string v :: .bool false :: ln).toArray 54 (0, 0))) := Lib.hid (by rw [hX2, sets_ne _ _ (ne_types HY6O.out HY6T.out (by decide))]; exact HY6O.out)
  have HX7S : Hid (SessAt X7 bs [((0, 1), gs)]) := Lib.hid (MapAt.kept HY6S.out (by rw [hX2, sets_ne _ _ (map_ne_row HY6S.out HY6T.out)]))
  have HX7A : Hid (AtAt X7 ba [((7, 0), 0)]) := Lib.hid (MapAt.kept HY6A.out (by rw [hX2, sets_ne _ _ (map_ne_row HY6A.out HY6T.out)]))
  have HX7F : Hid (Below B w X7) := Lib.hid (by rw [hX2]; exact sets_below _ HY6F.out HLT.out)
  have HX7Z : Hid (w.heap.size + 2 ≤ X7.heap.size) := Lib.hid (by rw [hX2, sets_size]; exact HY6Z.out)
  clear HY6M HY6G HY6T HY6P HY6N HY6O HY6S HY6A HY6F HY6Z hX2
  go_wp2_with fail
  go_end0
  exact ⟨rfl, ⟨HX7M.out, HX7S.out, HX7A.out, HX7G.out, HLM.out, HLS.out, HLA.out, HLG.out, HNE.out⟩, ⟨go, cn, ln, ⟨HX7T.out, HLT.out⟩, HX7O.out⟩, HX7F.out⟩
end Go.Proofs.Ythkacajlbenflaa.HistA
