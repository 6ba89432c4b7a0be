/- The maker's ask, where the head's example meets it. -/
import Derived.Test.YthkacajlbenflaaHistB
set_option linter.unusedVariables false
set_option linter.unusedSimpArgs false
set_option linter.unusedSectionVars false
namespace Go.Proofs.Ythkacajlbenflaa.HistA
open Go.RowKit Go.WideShapes Go.Deep Go.Proofs.Ythkacajlbenflaa.Mem Go.Proofs.Ythkacajlbenflaa.Maps Go.Proofs.Ythkacajlbenflaa.Kv
set_option maxHeartbeats 4000000 in
set_option maxRecDepth 100000 in
theorem call_commit {B gm ba bs gs A c go : Nat} {co : Array Value} (w : World) (hB : B ≤ w.heap.size) {kd en : Int} {k0 v0 : S} {ov : Value} {l : List Value} (hst : St B w gm ba bs gs (.slice (some ⟨A, 0, none⟩) 1 c) #[.int .i64 1, .int .i64 2, .int .i64 kd, .string k0, .string v0, .bool false, .int .u64 7, .int .i64 0, .bool true] [((7, 0), 0)]) (ht : TAt B w A (.int .u64 7 :: .int .i64 0 :: .int .i64 1 :: .int .i64 en :: .bool false :: .bool false :: ov :: l)) (ho : w.heap[go]? = some (.cells co 54 (0, 0))) (k v : S) :
    Calls Try.prog 23 #[.pointer (some ⟨gm, 0, none⟩), .agg #[.int .i64 0, .int .i64 1], .agg #[.int .i64 1, .int .i64 3, .int .i64 5, .string k, .string v]] w fun e w' => e = .returned (.tuple #[]) ∧ St B w' gm ba bs gs (.slice (some ⟨A, 0, none⟩) 1 c) #[.int .i64 1, .int .i64 3, .int .i64 5, .string k, .string v, .bool true, .int .u64 7, .int .i64 0, .bool true] [((7, 0), 0)] ∧ TAt B w' A (.int .u64 7 :: .int .i64 0 :: .int .i64 1 :: .int .i64 en :: .bool true :: .bool false :: ov :: l) ∧ w'.heap[go]? = some (.cells co 54 (0, 0)) ∧ Below B w w' := by
  have HB0 := Lib.hid hB
  have HwM := Lib.hid hst.fm
  have HwS := Lib.hid hst.fs
  have HwA := Lib.hid hst.fa
  have HwG := Lib.hid hst.fg
  have HLM := Lib.hid hst.lm
  have HLS := Lib.hid hst.ls
  have HLA := Lib.hid hst.la
  have HLG := Lib.hid hst.lg
  have HNE := Lib.hid hst.ne
  have HwF := Lib.hid trivial
  have HwZ := Lib.hid trivial
  clear hB hst
  have HwT : Hid (w.heap[A]? = some (.cells (.int .u64 7 :: .int .i64 0 :: .int .i64 1 :: .int .i64 en :: .bool false :: .bool false :: ov :: l).toArray 39 (0, 0))) := Lib.hid ht.1
  have HwO := Lib.hid ho
  clear ho
  have HLT := Lib.hid ht.2
  clear ht
  go_enter Try.func23, Try.ntmps23
  go_upto_region 1 with fail
  obtain ⟨X, hX⟩ : ∃ X, X = (w.alloc (.cells #[.int .i64 0, .int .i64 1] 71)).alloc (.cells #[.int .i64 1, .int .i64 3, .int .i64 5, .string k, .string v] 26) := ⟨_, rfl⟩
  rw [← hX]
  have hb : Below w.heap.size w X := by rw [hX]; exact ((Below.refl _ _).alloc (Nat.le_refl _) _).alloc (by simp) _
  have HwP := Lib.hid trivial
  have HwC := Lib.hid trivial
  have HXM : Hid (X.heap[gm]? = some (.cells #[.slice (some ⟨A, 0, none⟩) 1 c, .map (some ba), .map (some bs)] 67 (0, 0))) := Lib.hid ((hb.block _ (Array.getElem?_eq_some_iff.1 HwM.out).1).trans HwM.out)
  have HXG : Hid (X.heap[gs]? = some (.cells #[.int .i64 1, .int .i64 2, .int .i64 kd, .string k0, .string v0, .bool false, .int .u64 7, .int .i64 0, .bool true] 84 (0, 0))) := Lib.hid ((hb.block _ (Array.getElem?_eq_some_iff.1 HwG.out).1).trans HwG.out)
  have HXT : Hid (X.heap[A]? = some (.cells (.int .u64 7 :: .int .i64 0 :: .int .i64 1 :: .int .i64 en :: .bool false :: .bool false :: ov :: l).toArray 39 (0, 0))) := Lib.hid ((hb.block _ (Array.getElem?_eq_some_iff.1 HwT.out).1).trans HwT.out)
  have HXO : Hid (X.heap[go]? = some (.cells co 54 (0, 0))) := Lib.hid ((hb.block _ (Array.getElem?_eq_some_iff.1 HwO.out).1).trans HwO.out)
  have HXP : Hid (X.heap[w.heap.size]? = some (.cells #[.int .i64 0, .int .i64 1] 71 (0, 0))) := Lib.hid (by rw [hX, Below.heap_alloc _ _ _ (by simp)]; exact heap_alloc_new w _)
  have HXC : Hid (X.heap[w.heap.size + 1]? = some (.cells #[.int .i64 1, .int .i64 3, .int .i64 5, .string k, .string v] 26 (0, 0))) := Lib.hid (by
    rw [hX]
    have h9 := heap_alloc_new (w.alloc (.cells #[.int .i64 0, .int .i64 1] 71)) (.cells #[.int .i64 1, .int .i64 3, .int .i64 5, .string k, .string v] 26)
    rw [World.size_alloc] at h9
    exact h9)
  have HXS : Hid (SessAt X bs [((0, 1), gs)]) := Lib.hid (MapAt.below HwS.out hb)
  have HXA : Hid (AtAt X ba [((7, 0), 0)]) := Lib.hid (MapAt.below HwA.out hb)
  have HXF : Hid (Below B w X) := Lib.hid (hb.mono HB0.out)
  have HXZ : Hid (w.heap.size + 2 ≤ X.heap.size) := Lib.hid (by rw [hX]; simp)
  clear HwM HwG HwT HwO HwP HwC HwS HwA HwF HwZ hX hb
  obtain ⟨D1, hD⟩ : ∃ D, D = X.drew := ⟨_, rfl⟩
  have hDh : D1.heap = X.heap := by rw [hD]; rfl
  have hDo : D1.os = X.os := by rw [hD]; rfl
  have hDt : D1.tape = X.tape := by rw [hD]; rfl
  have hDp : D1.output = X.output := by rw [hD]; rfl
  have HD1M : Hid (D1.heap[gm]? = some (.cells #[.slice (some ⟨A, 0, none⟩) 1 c, .map (some ba), .map (some bs)] 67 (0, 0))) := Lib.hid (by rw [hDh]; exact HXM.out)
  have HD1G : Hid (D1.heap[gs]? = some (.cells #[.int .i64 1, .int .i64 2, .int .i64 kd, .string k0, .string v0, .bool false, .int .u64 7, .int .i64 0, .bool true] 84 (0, 0))) := Lib.hid (by rw [hDh]; exact HXG.out)
  have HD1T : Hid (D1.heap[A]? = some (.cells (.int .u64 7 :: .int .i64 0 :: .int .i64 1 :: .int .i64 en :: .bool false :: .bool false :: ov :: l).toArray 39 (0, 0))) := Lib.hid (by rw [hDh]; exact HXT.out)
  have HD1O : Hid (D1.heap[go]? = some (.cells co 54 (0, 0))) := Lib.hid (by rw [hDh]; exact HXO.out)
  have HD1P : Hid (D1.heap[w.heap.size]? = some (.cells #[.int .i64 0, .int .i64 1] 71 (0, 0))) := Lib.hid (by rw [hDh]; exact HXP.out)
  have HD1C : Hid (D1.heap[w.heap.size + 1]? = some (.cells #[.int .i64 1, .int .i64 3, .int .i64 5, .string k, .string v] 26 (0, 0))) := Lib.hid (by rw [hDh]; exact HXC.out)
  have HD1S : Hid (SessAt D1 bs [((0, 1), gs)]) := Lib.hid (MapAt.kept HXS.out (by rw [hDh]))
  have HD1A : Hid (AtAt D1 ba [((7, 0), 0)]) := Lib.hid (MapAt.kept HXA.out (by rw [hDh]))
  have HD1F : Hid (Below B w D1) := Lib.hid (below_same HXF.out hDh hDo hDt hDp)
  have HD1Z : Hid (w.heap.size + 2 ≤ D1.heap.size) := Lib.hid (by rw [hDh]; exact HXZ.out)
  clear HXM HXG HXT HXO HXP HXC HXS HXA HXF HXZ hDh hDo hDt hDp
  refine Held3.ways_start (fun _ W W' => W.heap = D1.heap → W'.heap = D1.heap) (by kernel_rfl) ?_
  rw [← hD]
  clear hD
  refine Held3.Ways.plain (i := 0) (oi := ?oy11) ?vy11 ?hiy11 ?hsy11 ?hfy11 ?hry11 ?hQy11 ?hyy11 (fun _ _ => id) ?resty11
  case hiy11 => exact rfl
  case hsy11 => kernel_rfl
  case hfy11 => kernel_rfl
  case hry11 => kernel_rfl
  case hQy11 => exact fun _ _ _ h => h
  case hyy11 =>
    refine .inl ⟨by rfl, fun W _ => ?_⟩
    go_simp
    try with_reducible rfl
  try simp only [Act.put, List.setIfInBounds_toArray, List.set_cons_zero, List.set_cons_succ]
  refine Held3.Ways.plain (i := 1) (oi := ?oy12) ?vy12 ?hiy12 ?hsy12 ?hfy12 ?hry12 ?hQy12 ?hyy12 (fun _ _ => id) ?resty12
  case hiy12 => exact rfl
  case hsy12 => kernel_rfl
  case hfy12 => kernel_rfl
  case hry12 => kernel_rfl
  case hQy12 => exact fun _ _ _ h => h
  case hyy12 =>
    refine .inl ⟨by rfl, fun W _ => ?_⟩
    go_simp
    try with_reducible rfl
  try simp only [Act.put, List.setIfInBounds_toArray, List.set_cons_zero, List.set_cons_succ]
  refine Held3.Ways.plain (i := 2) (oi := ?oy13) ?vy13 ?hiy13 ?hsy13 ?hfy13 ?hry13 ?hQy13 ?hyy13 (fun _ _ => id) ?resty13
  case hiy13 => exact rfl
  case hsy13 => kernel_rfl
  case hfy13 => kernel_rfl
  case hry13 => kernel_rfl
  case hQy13 => exact fun _ _ _ h => h
  case hyy13 =>
    refine .inl ⟨by rfl, fun W _ => ?_⟩
    go_simp
    try with_reducible rfl
  try simp only [Act.put, List.setIfInBounds_toArray, List.set_cons_zero, List.set_cons_succ]
  refine Held3.Ways.take (i := 3) (oi := ?oy14) (fun W : World => W.heap = D1.heap) (fun _ => true) ?vy14 ?hiy14 ?hsy14 ?hfy14 ?hlwy14 ?hry14 ?hQy14 rfl ?hyy14 (fun _ _ _ h _ => h) (fun _ _ => id) ?resty14
  case hiy14 => exact rfl
  case hsy14 => kernel_rfl
  case hfy14 => kernel_rfl
  case hlwy14 => kernel_rfl
  case hry14 => kernel_rfl
  case hQy14 => exact fun _ _ _ h => h
  case hyy14 =>
    refine .inl ⟨by rfl, fun W hW => ?_⟩
    obtain ⟨m0, m1, m2, m3⟩ := row3_facts (show W.heap[gm]? = some (.cells #[.slice (some ⟨A, 0, none⟩) 1 c, .map (some ba), .map (some bs)] 67 (0, 0)) by rw [hW]; exact HD1M.out)
    obtain ⟨p0, p1⟩ := row2c (show W.heap[w.heap.size]? = some (.cells #[.int .i64 0, .int .i64 1] 71 (0, 0)) by rw [hW]; exact HD1P.out)
    have hlk := run_lookup (P := Try.prog) (t := 65) (e := 82) (z := .pointer none) km_place Try.underlying65 (by kernel_rfl) (MapAt.kept HD1S.out (show W.heap[bs]? = D1.heap[bs]? by rw [hW])) (x := (0, 1)) rfl false
    rw [getP] at hlk
    simp only [encP, encB, Option.elim] at hlk
    go_simp
    try with_reducible rfl
  try simp only [Act.put, List.setIfInBounds_toArray, List.set_cons_zero, List.set_cons_succ]
  refine Held3.Ways.take (i := 4) (oi := ?oy15) (fun W : World => W.heap = D1.heap) (fun _ => true) ?vy15 ?hiy15 ?hsy15 ?hfy15 ?hlwy15 ?hry15 ?hQy15 rfl ?hyy15 (fun _ _ _ h _ => h) (fun _ _ => id) ?resty15
  case hiy15 => exact rfl
  case hsy15 => kernel_rfl
  case hfy15 => kernel_rfl
  case hlwy15 => kernel_rfl
  case hry15 => kernel_rfl
  case hQy15 => exact fun _ _ _ h => h
  case hyy15 =>
    refine .inl ⟨by rfl, fun W hW => ?_⟩
    obtain ⟨m0, m1, m2, m3⟩ := row3_facts (show W.heap[gm]? = some (.cells #[.slice (some ⟨A, 0, none⟩) 1 c, .map (some ba), .map (some bs)] 67 (0, 0)) by rw [hW]; exact HD1M.out)
    obtain ⟨p0, p1⟩ := row2c (show W.heap[w.heap.size]? = some (.cells #[.int .i64 0, .int .i64 1] 71 (0, 0)) by rw [hW]; exact HD1P.out)
    have hlk := run_lookup (P := Try.prog) (t := 65) (e := 82) (z := .pointer none) km_place Try.underlying65 (by kernel_rfl) (MapAt.kept HD1S.out (show W.heap[bs]? = D1.heap[bs]? by rw [hW])) (x := (0, 1)) rfl false
    rw [getP] at hlk
    simp only [encP, encB, Option.elim] at hlk
    go_simp
    try with_reducible rfl
  try simp only [Act.put, List.setIfInBounds_toArray, List.set_cons_zero, List.set_cons_succ]
  refine Held3.Ways.take (i := 5) (oi := ?oy16) (fun W : World => W.heap = D1.heap) (fun _ => true) ?vy16 ?hiy16 ?hsy16 ?hfy16 ?hlwy16 ?hry16 ?hQy16 rfl ?hyy16 (fun _ _ _ h _ => h) (fun _ _ => id) ?resty16
  case hiy16 => exact rfl
  case hsy16 => kernel_rfl
  case hfy16 => kernel_rfl
  case hlwy16 => kernel_rfl
  case hry16 => kernel_rfl
  case hQy16 => exact fun _ _ _ h => h
  case hyy16 =>
    refine .inl ⟨by rfl, fun W hW => ?_⟩
    obtain ⟨m0, m1, m2, m3⟩ := row3_facts (show W.heap[gm]? = some (.cells #[.slice (some ⟨A, 0, none⟩) 1 c, .map (some ba), .map (some bs)] 67 (0, 0)) by rw [hW]; exact HD1M.out)
    obtain ⟨p0, p1⟩ := row2c (show W.heap[w.heap.size]? = some (.cells #[.int .i64 0, .int .i64 1] 71 (0, 0)) by rw [hW]; exact HD1P.out)
    have hlk := run_lookup (P := Try.prog) (t := 65) (e := 82) (z := .pointer none) km_place Try.underlying65 (by kernel_rfl) (MapAt.kept HD1S.out (show W.heap[bs]? = D1.heap[bs]? by rw [hW])) (x := (0, 1)) rfl false
    rw [getP] at hlk
    simp only [encP, encB, Option.elim] at hlk
    go_simp
    try with_reducible rfl
  try simp only [Act.put, List.setIfInBounds_toArray, List.set_cons_zero, List.set_cons_succ]
  refine Held3.Ways.plain (i := 6) (oi := ?oy17) ?vy17 ?hiy17 ?hsy17 ?hfy17 ?hry17 ?hQy17 ?hyy17 (fun _ _ => id) ?resty17
  case hiy17 => exact rfl
  case hsy17 => kernel_rfl
  case hfy17 => kernel_rfl
  case hry17 => kernel_rfl
  case hQy17 => exact fun _ _ _ h => h
  case hyy17 =>
    refine .inl ⟨by rfl, fun W _ => ?_⟩
    go_simp
    try with_reducible rfl
  try simp only [Act.put, List.setIfInBounds_toArray, List.set_cons_zero, List.set_cons_succ]
  refine Held3.Ways.done (by kernel_rfl) ?_ _
  obtain ⟨g0, g1, g2, g3, g4, g5, g6, g7, g8, g9⟩ := row9_facts (HD1G.out)
  go_upto_region 8 with fail
  clear g0 g1 g2 g3 g4 g5 g6 g7 g8 g9
  obtain ⟨D2, hD⟩ : ∃ D, D = D1.drew := ⟨_, rfl⟩
  have hDh : D2.heap = D1.heap := by rw [hD]; rfl
  have hDo : D2.os = D1.os := by rw [hD]; rfl
  have hDt : D2.tape = D1.tape := by rw [hD]; rfl
  have hDp : D2.output = D1.output := by rw [hD]; rfl
  have HD2M : Hid (D2.heap[gm]? = some (.cells #[.slice (some ⟨A, 0, none⟩) 1 c, .map (some ba), .map (some bs)] 67 (0, 0))) := Lib.hid (by rw [hDh]; exact HD1M.out)
  have HD2G : Hid (D2.heap[gs]? = some (.cells #[.int .i64 1, .int .i64 2, .int .i64 kd, .string k0, .string v0, .bool false, .int .u64 7, .int .i64 0, .bool true] 84 (0, 0))) := Lib.hid (by rw [hDh]; exact HD1G.out)
  have HD2T : Hid (D2.heap[A]? = some (.cells (.int .u64 7 :: .int .i64 0 :: .int .i64 1 :: .int .i64 en :: .bool false :: .bool false :: ov :: l).toArray 39 (0, 0))) := Lib.hid (by rw [hDh]; exact HD1T.out)
  have HD2O : Hid (D2.heap[go]? = some (.cells co 54 (0, 0))) := Lib.hid (by rw [hDh]; exact HD1O.out)
  have HD2P : Hid (D2.heap[w.heap.size]? = some (.cells #[.int .i64 0, .int .i64 1] 71 (0, 0))) := Lib.hid (by rw [hDh]; exact HD1P.out)
  have HD2C : Hid (D2.heap[w.heap.size + 1]? = some (.cells #[.int .i64 1, .int .i64 3, .int .i64 5, .string k, .string v] 26 (0, 0))) := Lib.hid (by rw [hDh]; exact HD1C.out)
  have HD2S : Hid (SessAt D2 bs [((0, 1), gs)]) := Lib.hid (MapAt.kept HD1S.out (by rw [hDh]))
  have HD2A : Hid (AtAt D2 ba [((7, 0), 0)]) := Lib.hid (MapAt.kept HD1A.out (by rw [hDh]))
  have HD2F : Hid (Below B w D2) := Lib.hid (below_same HD1F.out hDh hDo hDt hDp)
  have HD2Z : Hid (w.heap.size + 2 ≤ D2.heap.size) := Lib.hid (by rw [hDh]; exact HD1Z.out)
  clear HD1M HD1G HD1T HD1O HD1P HD1C HD1S HD1A HD1F HD1Z hDh hDo hDt hDp
  refine Held3.ways_start (fun _ W W' => W.heap = D2.heap → W'.heap = D2.heap) (by kernel_rfl) ?_
  rw [← hD]
  clear hD
  refine Held3.Ways.plain (i := 0) (oi := ?oy28) ?vy28 ?hiy28 ?hsy28 ?hfy28 ?hry28 ?hQy28 ?hyy28 (fun _ _ => id) ?resty28
  case hiy28 => exact rfl
  case hsy28 => kernel_rfl
  case hfy28 => kernel_rfl
  case hry28 => kernel_rfl
  case hQy28 => exact fun _ _ _ h => h
  case hyy28 =>
    refine .inl ⟨by rfl, fun W _ => ?_⟩
    go_simp
    try with_reducible rfl
  try simp only [Act.put, List.setIfInBounds_toArray, List.set_cons_zero, List.set_cons_succ]
  refine Held3.Ways.plain (i := 1) (oi := ?oy29) ?vy29 ?hiy29 ?hsy29 ?hfy29 ?hry29 ?hQy29 ?hyy29 (fun _ _ => id) ?resty29
  case hiy29 => exact rfl
  case hsy29 => kernel_rfl
  case hfy29 => kernel_rfl
  case hry29 => kernel_rfl
  case hQy29 => exact fun _ _ _ h => h
  case hyy29 =>
    refine .inl ⟨by rfl, fun W _ => ?_⟩
    go_simp
    try with_reducible rfl
  try simp only [Act.put, List.setIfInBounds_toArray, List.set_cons_zero, List.set_cons_succ]
  refine Held3.Ways.plain (i := 2) (oi := ?oy210) ?vy210 ?hiy210 ?hsy210 ?hfy210 ?hry210 ?hQy210 ?hyy210 (fun _ _ => id) ?resty210
  case hiy210 => exact rfl
  case hsy210 => kernel_rfl
  case hfy210 => kernel_rfl
  case hry210 => kernel_rfl
  case hQy210 => exact fun _ _ _ h => h
  case hyy210 =>
    refine .inl ⟨by rfl, fun W _ => ?_⟩
    go_simp
    try with_reducible rfl
  try simp only [Act.put, List.setIfInBounds_toArray, List.set_cons_zero, List.set_cons_succ]
  refine Held3.Ways.plain (i := 3) (oi := ?oy211) ?vy211 ?hiy211 ?hsy211 ?hfy211 ?hry211 ?hQy211 ?hyy211 (fun _ _ => id) ?resty211
  case hiy211 => exact rfl
  case hsy211 => kernel_rfl
  case hfy211 => kernel_rfl
  case hry211 => kernel_rfl
  case hQy211 => exact fun _ _ _ h => h
  case hyy211 =>
    refine .inl ⟨by rfl, fun W _ => ?_⟩
    go_simp
    try with_reducible rfl
  try simp only [Act.put, List.setIfInBounds_toArray, List.set_cons_zero, List.set_cons_succ]
  refine Held3.Ways.plain (i := 4) (oi := ?oy212) ?vy212 ?hiy212 ?hsy212 ?hfy212 ?hry212 ?hQy212 ?hyy212 (fun _ _ => id) ?resty212
  case hiy212 => exact rfl
  case hsy212 => kernel_rfl
  case hfy212 => kernel_rfl
  case hry212 => kernel_rfl
  case hQy212 => exact fun _ _ _ h => h
  case hyy212 =>
    refine .inl ⟨by rfl, fun W _ => ?_⟩
    go_simp
    try with_reducible rfl
  try simp only [Act.put, List.setIfInBounds_toArray, List.set_cons_zero, List.set_cons_succ]
  refine Held3.Ways.plain (i := 5) (oi := ?oy213) ?vy213 ?hiy213 ?hsy213 ?hfy213 ?hry213 ?hQy213 ?hyy213 (fun _ _ => id) ?resty213
  case hiy213 => exact rfl
  case hsy213 => kernel_rfl
  case hfy213 => kernel_rfl
  case hry213 => kernel_rfl
  case hQy213 => exact fun _ _ _ h => h
  case hyy213 =>
    refine .inl ⟨by rfl, fun W _ => ?_⟩
    go_simp
    try with_reducible rfl
  try simp only [Act.put, List.setIfInBounds_toArray, List.set_cons_zero, List.set_cons_succ]
  refine Held3.Ways.take (i := 6) (oi := ?oy214) (fun W : World => W.heap = D2.heap) (fun _ => true) ?vy214 ?hiy214 ?hsy214 ?hfy214 ?hlwy214 ?hry214 ?hQy214 rfl ?hyy214 (fun _ _ _ h _ => h) (fun _ _ => id) ?resty214
  case hiy214 => exact rfl
  case hsy214 => kernel_rfl
  case hfy214 => kernel_rfl
  case hlwy214 => kernel_rfl
  case hry214 => kernel_rfl
  case hQy214 => exact fun _ _ _ h => h
  case hyy214 =>
    refine .inl ⟨by rfl, fun W hW => ?_⟩
    obtain ⟨c0, c1, c2, c3, c4⟩ := row5_facts (show W.heap[w.heap.size + 1]? = some (.cells #[.int .i64 1, .int .i64 3, .int .i64 5, .string k, .string v] 26 (0, 0)) by rw [hW]; exact HD2C.out)
    obtain ⟨g0, g1, g2, g3, g4, g5, g6, g7, g8, g9⟩ := row9_facts (show W.heap[gs]? = some (.cells #[.int .i64 1, .int .i64 2, .int .i64 kd, .string k0, .string v0, .bool false, .int .u64 7, .int .i64 0, .bool true] 84 (0, 0)) by rw [hW]; exact HD2G.out)
    go_simp
    try with_reducible rfl
  try simp only [Act.put, List.setIfInBounds_toArray, List.set_cons_zero, List.set_cons_succ]
  refine Held3.Ways.plain (i := 7) (oi := ?oy215) ?vy215 ?hiy215 ?hsy215 ?hfy215 ?hry215 ?hQy215 ?hyy215 (fun _ _ => id) ?resty215
  case hiy215 => exact rfl
  case hsy215 => kernel_rfl
  case hfy215 => kernel_rfl
  case hry215 => kernel_rfl
  case hQy215 => exact fun _ _ _ h => h
  case hyy215 =>
    refine .inl ⟨by rfl, fun W _ => ?_⟩
    go_simp
    try with_reducible rfl
  try simp only [Act.put, List.setIfInBounds_toArray, List.set_cons_zero, List.set_cons_succ]
  refine Held3.Ways.plain (i := 8) (oi := ?oy216) ?vy216 ?hiy216 ?hsy216 ?hfy216 ?hry216 ?hQy216 ?hyy216 (fun _ _ => id) ?resty216
  case hiy216 => exact rfl
  case hsy216 => kernel_rfl
  case hfy216 => kernel_rfl
  case hry216 => kernel_rfl
  case hQy216 => exact fun _ _ _ h => h
  case hyy216 =>
    refine .inl ⟨by rfl, fun W _ => ?_⟩
    go_simp
    try with_reducible rfl
  try simp only [Act.put, List.setIfInBounds_toArray, List.set_cons_zero, List.set_cons_succ]
  refine Held3.Ways.plain (i := 9) (oi := ?oy217) ?vy217 ?hiy217 ?hsy217 ?hfy217 ?hry217 ?hQy217 ?hyy217 (fun _ _ => id) ?resty217
  case hiy217 => exact rfl
  case hsy217 => kernel_rfl
  case hfy217 => kernel_rfl
  case hry217 => kernel_rfl
  case hQy217 => exact fun _ _ _ h => h
  case hyy217 =>
    refine .inl ⟨by rfl, fun W _ => ?_⟩
    go_simp
    try with_reducible rfl
  try simp only [Act.put, List.setIfInBounds_toArray, List.set_cons_zero, List.set_cons_succ]
  refine Held3.Ways.take (i := 10) (oi := ?oy218) (fun W : World => W.heap = D2.heap) (fun _ => true) ?vy218 ?hiy218 ?hsy218 ?hfy218 ?hlwy218 ?hry218 ?hQy218 rfl ?hyy218 (fun _ _ _ h _ => h) (fun _ _ => id) ?resty218
  case hiy218 => exact rfl
  case hsy218 => kernel_rfl
  case hfy218 => kernel_rfl
  case hlwy218 => kernel_rfl
  case hry218 => kernel_rfl
  case hQy218 => exact fun _ _ _ h => h
  case hyy218 =>
    refine .inl ⟨by rfl, fun W hW => ?_⟩
    obtain ⟨c0, c1, c2, c3, c4⟩ := row5_facts (show W.heap[w.heap.size + 1]? = some (.cells #[.int .i64 1, .int .i64 3, .int .i64 5, .string k, .string v] 26 (0, 0)) by rw [hW]; exact HD2C.out)
    obtain ⟨g0, g1, g2, g3, g4, g5, g6, g7, g8, g9⟩ := row9_facts (show W.heap[gs]? = some (.cells #[.int .i64 1, .int .i64 2, .int .i64 kd, .string k0, .string v0, .bool false, .int .u64 7, .int .i64 0, .bool true] 84 (0, 0)) by rw [hW]; exact HD2G.out)
    go_simp
    try with_reducible rfl
  try simp only [Act.put, List.setIfInBounds_toArray, List.set_cons_zero, List.set_cons_succ]
  refine Held3.Ways.plain (i := 11) (oi := ?oy219) ?vy219 ?hiy219 ?hsy219 ?hfy219 ?hry219 ?hQy219 ?hyy219 (fun _ _ => id) ?resty219
  case hiy219 => exact rfl
  case hsy219 => kernel_rfl
  case hfy219 => kernel_rfl
  case hry219 => kernel_rfl
  case hQy219 => exact fun _ _ _ h => h
  case hyy219 =>
    refine .inl ⟨by rfl, fun W _ => ?_⟩
    go_simp
    try with_reducible rfl
  try simp only [Act.put, List.setIfInBounds_toArray, List.set_cons_zero, List.set_cons_succ]
  refine Held3.Ways.plain (i := 12) (oi := ?oy220) ?vy220 ?hiy220 ?hsy220 ?hfy220 ?hry220 ?hQy220 ?hyy220 (fun _ _ => id) ?resty220
  case hiy220 => exact rfl
  case hsy220 => kernel_rfl
  case hfy220 => kernel_rfl
  case hry220 => kernel_rfl
  case hQy220 => exact fun _ _ _ h => h
  case hyy220 =>
    refine .inl ⟨by rfl, fun W _ => ?_⟩
    go_simp
    try with_reducible rfl
  try simp only [Act.put, List.setIfInBounds_toArray, List.set_cons_zero, List.set_cons_succ]
  refine Held3.Ways.plain (i := 13) (oi := ?oy221) ?vy221 ?hiy221 ?hsy221 ?hfy221 ?hry221 ?hQy221 ?hyy221 (fun _ _ => id) ?resty221
  case hiy221 => exact rfl
  case hsy221 => kernel_rfl
  case hfy221 => kernel_rfl
  case hry221 => kernel_rfl
  case hQy221 => exact fun _ _ _ h => h
  case hyy221 =>
    refine .inl ⟨by rfl, fun W _ => ?_⟩
    go_simp
    try with_reducible rfl
  try simp only [Act.put, List.setIfInBounds_toArray, List.set_cons_zero, List.set_cons_succ]
  refine Held3.Ways.plain (i := 14) (oi := ?oy222) ?vy222 ?hiy222 ?hsy222 ?hfy222 ?hry222 ?hQy222 ?hyy222 (fun _ _ => id) ?resty222
  case hiy222 => exact rfl
  case hsy222 => kernel_rfl
  case hfy222 => kernel_rfl
  case hry222 => kernel_rfl
  case hQy222 => exact fun _ _ _ h => h
  case hyy222 =>
    refine .inl ⟨by rfl, fun W _ => ?_⟩
    go_simp
    try with_reducible rfl
  try simp only [Act.put, List.setIfInBounds_toArray, List.set_cons_zero, List.set_cons_succ]
  refine Held3.Ways.plain (i := 15) (oi := ?oy223) ?vy223 ?hiy223 ?hsy223 ?hfy223 ?hry223 ?hQy223 ?hyy223 (fun _ _ => id) ?resty223
  case hiy223 => exact rfl
  case hsy223 => kernel_rfl
  case hfy223 => kernel_rfl
  case hry223 => kernel_rfl
  case hQy223 => exact fun _ _ _ h => h
  case hyy223 =>
    refine .inl ⟨by rfl, fun W _ => ?_⟩
    go_simp
    try with_reducible rfl
  try simp only [Act.put, List.setIfInBounds_toArray, List.set_cons_zero, List.set_cons_succ]
  refine Held3.Ways.take (i := 16) (oi := ?oy224) (fun W : World => W.heap = D2.heap) (fun _ => true) ?vy224 ?hiy224 ?hsy224 ?hfy224 ?hlwy224 ?hry224 ?hQy224 rfl ?hyy224 (fun _ _ _ h _ => h) (fun _ _ => id) ?resty224
  case hiy224 => exact rfl
  case hsy224 => kernel_rfl
  case hfy224 => kernel_rfl
  case hlwy224 => kernel_rfl
  case hry224 => kernel_rfl
  case hQy224 => exact fun _ _ _ h => h
  case hyy224 =>
    refine .inl ⟨by rfl, fun W hW => ?_⟩
    obtain ⟨c0, c1, c2, c3, c4⟩ := row5_facts (show W.heap[w.heap.size + 1]? = some (.cells #[.int .i64 1, .int .i64 3, .int .i64 5, .string k, .string v] 26 (0, 0)) by rw [hW]; exact HD2C.out)
    obtain ⟨g0, g1, g2, g3, g4, g5, g6, g7, g8, g9⟩ := row9_facts (show W.heap[gs]? = some (.cells #[.int .i64 1, .int .i64 2, .int .i64 kd, .string k0, .string v0, .bool false, .int .u64 7, .int .i64 0, .bool true] 84 (0, 0)) by rw [hW]; exact HD2G.out)
    go_simp
    try with_reducible rfl
  try simp only [Act.put, List.setIfInBounds_toArray, List.set_cons_zero, List.set_cons_succ]
  refine Held3.Ways.plain (i := 17) (oi := ?oy225) ?vy225 ?hiy225 ?hsy225 ?hfy225 ?hry225 ?hQy225 ?hyy225 (fun _ _ => id) ?resty225
  case hiy225 => exact rfl
  case hsy225 => kernel_rfl
  case hfy225 => kernel_rfl
  case hry225 => kernel_rfl
  case hQy225 => exact fun _ _ _ h => h
  case hyy225 =>
    refine .inl ⟨by rfl, fun W _ => ?_⟩
    go_simp
    try with_reducible rfl
  try simp only [Act.put, List.setIfInBounds_toArray, List.set_cons_zero, List.set_cons_succ]
  refine Held3.Ways.plain (i := 18) (oi := ?oy226) ?vy226 ?hiy226 ?hsy226 ?hfy226 ?hry226 ?hQy226 ?hyy226 (fun _ _ => id) ?resty226
  case hiy226 => exact rfl
  case hsy226 => kernel_rfl
  case hfy226 => kernel_rfl
  case hry226 => kernel_rfl
  case hQy226 => exact fun _ _ _ h => h
  case hyy226 =>
    refine .inl ⟨by rfl, fun W _ => ?_⟩
    go_simp
    try with_reducible rfl
  try simp only [Act.put, List.setIfInBounds_toArray, List.set_cons_zero, List.set_cons_succ]
  refine Held3.Ways.plain (i := 19) (oi := ?oy227) ?vy227 ?hiy227 ?hsy227 ?hfy227 ?hry227 ?hQy227 ?hyy227 (fun _ _ => id) ?resty227
  case hiy227 => exact rfl
  case hsy227 => kernel_rfl
  case hfy227 => kernel_rfl
  case hry227 => kernel_rfl
  case hQy227 => exact fun _ _ _ h => h
  case hyy227 =>
    refine .inl ⟨by rfl, fun W _ => ?_⟩
    go_simp
    try with_reducible rfl
  try simp only [Act.put, List.setIfInBounds_toArray, List.set_cons_zero, List.set_cons_succ]
  refine Held3.Ways.done (by kernel_rfl) ?_ _
  obtain ⟨c0, c1, c2, c3, c4⟩ := row5_facts (HD2C.out)
  obtain ⟨g0, g1, g2, g3, g4, g5, g6, g7, g8, g9⟩ := row9_facts (HD2G.out)
  go_upto_region 3 with fail
  clear c0 c1 c2 c3 c4 g0 g1 g2 g3 g4 g5 g6 g7 g8 g9
  obtain ⟨X3, hX⟩ : ∃ X, X = ((((((D2.setCell ⟨gs, 0, none⟩ (.int .i64 1)).setCell ⟨gs, 1, none⟩ (.int .i64 3)).setCell ⟨gs, 2, none⟩ (.int .i64 5)).setCell ⟨gs, 3, none⟩ (.string k)).setCell ⟨gs, 4, none⟩ (.string v)).setCell ⟨gs, 5, none⟩ (.bool true)) := ⟨_, rfl⟩
  rw [← hX]
  have hX2 : X3 = sets D2 gs [(0, .int .i64 1), (1, .int .i64 3), (2, .int .i64 5), (3, .string k), (4, .string v), (5, .bool true)] := hX
  clear hX
  have HX3M : Hid (X3.heap[gm]? = some (.cells #[.slice (some ⟨A, 0, none⟩) 1 c, .map (some ba), .map (some bs)] 67 (0, 0))) := Lib.hid (by rw [hX2, sets_ne _ _ (ne_types HD2M.out HD2G.out (by decide))]; exact HD2M.out)
  have HX3G : Hid (X3.heap[gs]? = some (.cells #[.int .i64 1, .int .i64 3, .int .i64 5, .string k, .string v, .bool true, .int .u64 7, .int .i64 0, .bool true] 84 (0, 0))) := Lib.hid (by rw [hX2]; have h9 := sets_row [(0, .int .i64 1), (1, .int .i64 3), (2, .int .i64 5), (3, .string k), (4, .string v), (5, .bool true)] D2 HD2G.out; simpa only [List.foldl_cons, List.foldl_nil, List.setIfInBounds_toArray, List.set_cons_zero, List.set_cons_succ] using h9)
  have HX3T : Hid (X3.heap[A]? = some (.cells (.int .u64 7 :: .int .i64 0 :: .int .i64 1 :: .int .i64 en :: .bool false :: .bool false :: ov :: l).toArray 39 (0, 0))) := Lib.hid (by rw [hX2, sets_ne _ _ (ne_types HD2T.out HD2G.out (by decide))]; exact HD2T.out)
  have HX3O : Hid (X3.heap[go]? = some (.cells co 54 (0, 0))) := Lib.hid (by rw [hX2, sets_ne _ _ (ne_types HD2O.out HD2G.out (by decide))]; exact HD2O.out)
  have HX3P : Hid (X3.heap[w.heap.size]? = some (.cells #[.int .i64 0, .int .i64 1] 71 (0, 0))) := Lib.hid (by rw [hX2, sets_ne _ _ (ne_types HD2P.out HD2G.out (by decide))]; exact HD2P.out)
  have HX3C : Hid (X3.heap[w.heap.size + 1]? = some (.cells #[.int .i64 1, .int .i64 3, .int .i64 5, .string k, .string v] 26 (0, 0))) := Lib.hid (by rw [hX2, sets_ne _ _ (ne_types HD2C.out HD2G.out (by decide))]; exact HD2C.out)
  have HX3S : Hid (SessAt X3 bs [((0, 1), gs)]) := Lib.hid (MapAt.kept HD2S.out (by rw [hX2, sets_ne _ _ (map_ne_row HD2S.out HD2G.out)]))
  have HX3A : Hid (AtAt X3 ba [((7, 0), 0)]) := Lib.hid (MapAt.kept HD2A.out (by rw [hX2, sets_ne _ _ (map_ne_row HD2A.out HD2G.out)]))
  have HX3F : Hid (Below B w X3) := Lib.hid (by rw [hX2]; exact sets_below _ HD2F.out HLG.out)
  have HX3Z : Hid (w.heap.size + 2 ≤ X3.heap.size) := Lib.hid (by rw [hX2, sets_size]; exact HD2Z.out)
  clear HD2M HD2G HD2T HD2O HD2P HD2C HD2S HD2A HD2F HD2Z hX2
  obtain ⟨D4, hD⟩ : ∃ D, D = X3.drew := ⟨_, rfl⟩
  have hDh : D4.heap = X3.heap := by rw [hD]; rfl
  have hDo : D4.os = X3.os := by rw [hD]; rfl
  have hDt : D4.tape = X3.tape := by rw [hD]; rfl
  have hDp : D4.output = X3.output := by rw [hD]; rfl
  have HD4M : Hid (D4.heap[gm]? = some (.cells #[.slice (some ⟨A, 0, none⟩) 1 c, .map (some ba), .map (some bs)] 67 (0, 0))) := Lib.hid (by rw [hDh]; exact HX3M.out)
  have HD4G : Hid (D4.heap[gs]? = some (.cells #[.int .i64 1, .int .i64 3, .int .i64 5, .string k, .string v, .bool true, .int .u64 7, .int .i64 0, .bool true] 84 (0, 0))) := Lib.hid (by rw [hDh]; exact HX3G.out)
  have HD4T : Hid (D4.heap[A]? = some (.cells (.int .u64 7 :: .int .i64 0 :: .int .i64 1 :: .int .i64 en :: .bool false :: .bool false :: ov :: l).toArray 39 (0, 0))) := Lib.hid (by rw [hDh]; exact HX3T.out)
  have HD4O : Hid (D4.heap[go]? = some (.cells co 54 (0, 0))) := Lib.hid (by rw [hDh]; exact HX3O.out)
  have HD4P : Hid (D4.heap[w.heap.size]? = some (.cells #[.int .i64 0, .int .i64 1] 71 (0, 0))) := Lib.hid (by rw [hDh]; exact HX3P.out)
  have HD4C : Hid (D4.heap[w.heap.size + 1]? = some (.cells #[.int .i64 1, .int .i64 3, .int .i64 5, .string k, .string v] 26 (0, 0))) := Lib.hid (by rw [hDh]; exact HX3C.out)
  have HD4S : Hid (SessAt D4 bs [((0, 1), gs)]) := Lib.hid (MapAt.kept HX3S.out (by rw [hDh]))
  have HD4A : Hid (AtAt D4 ba [((7, 0), 0)]) := Lib.hid (MapAt.kept HX3A.out (by rw [hDh]))
  have HD4F : Hid (Below B w D4) := Lib.hid (below_same HX3F.out hDh hDo hDt hDp)
  have HD4Z : Hid (w.heap.size + 2 ≤ D4.heap.size) := Lib.hid (by rw [hDh]; exact HX3Z.out)
  clear HX3M HX3G HX3T HX3O HX3P HX3C HX3S HX3A HX3F HX3Z hDh hDo hDt hDp
  refine Held3.ways_start (fun _ W W' => W.heap = D4.heap → W'.heap = D4.heap) (by kernel_rfl) ?_
  rw [← hD]
  clear hD
  refine Held3.Ways.plain (i := 0) (oi := ?oy328) ?vy328 ?hiy328 ?hsy328 ?hfy328 ?hry328 ?hQy328 ?hyy328 (fun _ _ => id) ?resty328
  case hiy328 => exact rfl
  case hsy328 => kernel_rfl
  case hfy328 => kernel_rfl
  case hry328 => kernel_rfl
  case hQy328 => exact fun _ _ _ h => h
  case hyy328 =>
    refine .inl ⟨by rfl, fun W _ => ?_⟩
    go_simp
    try with_reducible rfl
  try simp only [Act.put, List.setIfInBounds_toArray, List.set_cons_zero, List.set_cons_succ]
  refine Held3.Ways.plain (i := 1) (oi := ?oy329) ?vy329 ?hiy329 ?hsy329 ?hfy329 ?hry329 ?hQy329 ?hyy329 (fun _ _ => id) ?resty329
  case hiy329 => exact rfl
  case hsy329 => kernel_rfl
  case hfy329 => kernel_rfl
  case hry329 => kernel_rfl
  case hQy329 => exact fun _ _ _ h => h
  case hyy329 =>
    refine .inl ⟨by rfl, fun W _ => ?_⟩
    go_simp
    try with_reducible rfl
  try simp only [Act.put, List.setIfInBounds_toArray, List.set_cons_zero, List.set_cons_succ]
  refine Held3.Ways.plain (i := 2) (oi := ?oy330) ?vy330 ?hiy330 ?hsy330 ?hfy330 ?hry330 ?hQy330 ?hyy330 (fun _ _ => id) ?resty330
  case hiy330 => exact rfl
  case hsy330 => kernel_rfl
  case hfy330 => kernel_rfl
  case hry330 => kernel_rfl
  case hQy330 => exact fun _ _ _ h => h
  case hyy330 =>
    refine .inl ⟨by rfl, fun W _ => ?_⟩
    go_simp
    try with_reducible rfl
  try simp only [Act.put, List.setIfInBounds_toArray, List.set_cons_zero, List.set_cons_succ]
  refine Held3.Ways.take (i := 3) (oi := ?oy331) (fun W : World => W.heap = D4.heap) (fun _ => true) ?vy331 ?hiy331 ?hsy331 ?hfy331 ?hlwy331 ?hry331 ?hQy331 rfl ?hyy331 (fun _ _ _ h _ => h) (fun _ _ => id) ?resty331
  case hiy331 => exact rfl
  case hsy331 => kernel_rfl
  case hfy331 => kernel_rfl
  case hlwy331 => kernel_rfl
  case hry331 => kernel_rfl
  case hQy331 => exact fun _ _ _ h => h
  case hyy331 =>
    refine .inl ⟨by rfl, fun W hW => ?_⟩
    obtain ⟨m0, m1, m2, m3⟩ := row3_facts (show W.heap[gm]? = some (.cells #[.slice (some ⟨A, 0, none⟩) 1 c, .map (some ba), .map (some bs)] 67 (0, 0)) by rw [hW]; exact HD4M.out)
    obtain ⟨g0, g1, g2, g3, g4, g5, g6, g7, g8, g9⟩ := row9_facts (show W.heap[gs]? = some (.cells #[.int .i64 1, .int .i64 3, .int .i64 5, .string k, .string v, .bool true, .int .u64 7, .int .i64 0, .bool true] 84 (0, 0)) by rw [hW]; exact HD4G.out)
    have hlk := run_lookup (P := Try.prog) (t := 64) (e := 3) (z := .int .i64 0) km_tid Try.underlying64 (by kernel_rfl) (MapAt.kept HD4A.out (show W.heap[ba]? = D4.heap[ba]? by rw [hW])) (x := (7, 0)) rfl true
    rw [getT] at hlk
    simp only [encT, encN, Option.elim, Option.isSome] at hlk
    go_simp
    try with_reducible rfl
  try simp only [Act.put, List.setIfInBounds_toArray, List.set_cons_zero, List.set_cons_succ]
  refine Held3.Ways.plain (i := 4) (oi := ?oy332) ?vy332 ?hiy332 ?hsy332 ?hfy332 ?hry332 ?hQy332 ?hyy332 (fun _ _ => id) ?resty332
  case hiy332 => exact rfl
  case hsy332 => kernel_rfl
  case hfy332 => kernel_rfl
  case hry332 => kernel_rfl
  case hQy332 => exact fun _ _ _ h => h
  case hyy332 =>
    refine .inl ⟨by rfl, fun W _ => ?_⟩
    go_simp
    try with_reducible rfl
  try simp only [Act.put, List.setIfInBounds_toArray, List.set_cons_zero, List.set_cons_succ]
  refine Held3.Ways.plain (i := 5) (oi := ?oy333) ?vy333 ?hiy333 ?hsy333 ?hfy333 ?hry333 ?hQy333 ?hyy333 (fun _ _ => id) ?resty333
  case hiy333 => exact rfl
  case hsy333 => kernel_rfl
  case hfy333 => kernel_rfl
  case hry333 => kernel_rfl
  case hQy333 => exact fun _ _ _ h => h
  case hyy333 =>
    refine .inl ⟨by rfl, fun W _ => ?_⟩
    go_simp
    try with_reducible rfl
  try simp only [Act.put, List.setIfInBounds_toArray, List.set_cons_zero, List.set_cons_succ]
  refine Held3.Ways.plain (i := 6) (oi := ?oy334) ?vy334 ?hiy334 ?hsy334 ?hfy334 ?hry334 ?hQy334 ?hyy334 (fun _ _ => id) ?resty334
  case hiy334 => exact rfl
  case hsy334 => kernel_rfl
  case hfy334 => kernel_rfl
  case hry334 => kernel_rfl
  case hQy334 => exact fun _ _ _ h => h
  case hyy334 =>
    refine .inl ⟨by rfl, fun W _ => ?_⟩
    go_simp
    try with_reducible rfl
  try simp only [Act.put, List.setIfInBounds_toArray, List.set_cons_zero, List.set_cons_succ]
  refine Held3.Ways.take (i := 7) (oi := ?oy335) (fun W : World => W.heap = D4.heap) (fun _ => true) ?vy335 ?hiy335 ?hsy335 ?hfy335 ?hlwy335 ?hry335 ?hQy335 rfl ?hyy335 (fun _ _ _ h _ => h) (fun _ _ => id) ?resty335
  case hiy335 => exact rfl
  case hsy335 => kernel_rfl
  case hfy335 => kernel_rfl
  case hlwy335 => kernel_rfl
  case hry335 => kernel_rfl
  case hQy335 => exact fun _ _ _ h => h
  case hyy335 =>
    refine .inl ⟨by rfl, fun W hW => ?_⟩
    obtain ⟨m0, m1, m2, m3⟩ := row3_facts (show W.heap[gm]? = some (.cells #[.slice (some ⟨A, 0, none⟩) 1 c, .map (some ba), .map (some bs)] 67 (0, 0)) by rw [hW]; exact HD4M.out)
    obtain ⟨g0, g1, g2, g3, g4, g5, g6, g7, g8, g9⟩ := row9_facts (show W.heap[gs]? = some (.cells #[.int .i64 1, .int .i64 3, .int .i64 5, .string k, .string v, .bool true, .int .u64 7, .int .i64 0, .bool true] 84 (0, 0)) by rw [hW]; exact HD4G.out)
    have hlk := run_lookup (P := Try.prog) (t := 64) (e := 3) (z := .int .i64 0) km_tid Try.underlying64 (by kernel_rfl) (MapAt.kept HD4A.out (show W.heap[ba]? = D4.heap[ba]? by rw [hW])) (x := (7, 0)) rfl true
    rw [getT] at hlk
    simp only [encT, encN, Option.elim, Option.isSome] at hlk
    go_simp
    try with_reducible rfl
  try simp only [Act.put, List.setIfInBounds_toArray, List.set_cons_zero, List.set_cons_succ]
  refine Held3.Ways.take (i := 8) (oi := ?oy336) (fun W : World => W.heap = D4.heap) (fun _ => true) ?vy336 ?hiy336 ?hsy336 ?hfy336 ?hlwy336 ?hry336 ?hQy336 rfl ?hyy336 (fun _ _ _ h _ => h) (fun _ _ => id) ?resty336
  case hiy336 => exact rfl
  case hsy336 => kernel_rfl
  case hfy336 => kernel_rfl
  case hlwy336 => kernel_rfl
  case hry336 => kernel_rfl
  case hQy336 => exact fun _ _ _ h => h
  case hyy336 =>
    refine .inl ⟨by rfl, fun W hW => ?_⟩
    obtain ⟨m0, m1, m2, m3⟩ := row3_facts (show W.heap[gm]? = some (.cells #[.slice (some ⟨A, 0, none⟩) 1 c, .map (some ba), .map (some bs)] 67 (0, 0)) by rw [hW]; exact HD4M.out)
    obtain ⟨g0, g1, g2, g3, g4, g5, g6, g7, g8, g9⟩ := row9_facts (show W.heap[gs]? = some (.cells #[.int .i64 1, .int .i64 3, .int .i64 5, .string k, .string v, .bool true, .int .u64 7, .int .i64 0, .bool true] 84 (0, 0)) by rw [hW]; exact HD4G.out)
    have hlk := run_lookup (P := Try.prog) (t := 64) (e := 3) (z := .int .i64 0) km_tid Try.underlying64 (by kernel_rfl) (MapAt.kept HD4A.out (show W.heap[ba]? = D4.heap[ba]? by rw [hW])) (x := (7, 0)) rfl true
    rw [getT] at hlk
    simp only [encT, encN, Option.elim, Option.isSome] at hlk
    go_simp
    try with_reducible rfl
  try simp only [Act.put, List.setIfInBounds_toArray, List.set_cons_zero, List.set_cons_succ]
  refine Held3.Ways.plain (i := 9) (oi := ?oy337) ?vy337 ?hiy337 ?hsy337 ?hfy337 ?hry337 ?hQy337 ?hyy337 (fun _ _ => id) ?resty337
  case hiy337 => exact rfl
  case hsy337 => kernel_rfl
  case hfy337 => kernel_rfl
  case hry337 => kernel_rfl
  case hQy337 => exact fun _ _ _ h => h
  case hyy337 =>
    refine .inl ⟨by rfl, fun W _ => ?_⟩
    go_simp
    try with_reducible rfl
  try simp only [Act.put, List.setIfInBounds_toArray, List.set_cons_zero, List.set_cons_succ]
  refine Held3.Ways.plain (i := 10) (oi := ?oy338) ?vy338 ?hiy338 ?hsy338 ?hfy338 ?hry338 ?hQy338 ?hyy338 (fun _ _ => id) ?resty338
  case hiy338 => exact rfl
  case hsy338 => kernel_rfl
  case hfy338 => kernel_rfl
  case hry338 => kernel_rfl
  case hQy338 => exact fun _ _ _ h => h
  case hyy338 =>
    refine .inl ⟨by rfl, fun W _ => ?_⟩
    go_simp
    try with_reducible rfl
  try simp only [Act.put, List.setIfInBounds_toArray, List.set_cons_zero, List.set_cons_succ]
  refine Held3.Ways.plain (i := 11) (oi := ?oy339) ?vy339 ?hiy339 ?hsy339 ?hfy339 ?hry339 ?hQy339 ?hyy339 (fun _ _ => id) ?resty339
  case hiy339 => exact rfl
  case hsy339 => kernel_rfl
  case hfy339 => kernel_rfl
  case hry339 => kernel_rfl
  case hQy339 => exact fun _ _ _ h => h
  case hyy339 =>
    refine .inl ⟨by rfl, fun W _ => ?_⟩
    go_simp
    try with_reducible rfl
  try simp only [Act.put, List.setIfInBounds_toArray, List.set_cons_zero, List.set_cons_succ]
  refine Held3.Ways.plain (i := 12) (oi := ?oy340) ?vy340 ?hiy340 ?hsy340 ?hfy340 ?hry340 ?hQy340 ?hyy340 (fun _ _ => id) ?resty340
  case hiy340 => exact rfl
  case hsy340 => kernel_rfl
  case hfy340 => kernel_rfl
  case hry340 => kernel_rfl
  case hQy340 => exact fun _ _ _ h => h
  case hyy340 =>
    refine .inl ⟨by rfl, fun W _ => ?_⟩
    go_simp
    try with_reducible rfl
  try simp only [Act.put, List.setIfInBounds_toArray, List.set_cons_zero, List.set_cons_succ]
  refine Held3.Ways.plain (i := 13) (oi := ?oy341) ?vy341 ?hiy341 ?hsy341 ?hfy341 ?hry341 ?hQy341 ?hyy341 (fun _ _ => id) ?resty341
  case hiy341 => exact rfl
  case hsy341 => kernel_rfl
  case hfy341 => kernel_rfl
  case hry341 => kernel_rfl
  case hQy341 => exact fun _ _ _ h => h
  case hyy341 =>
    refine .inl ⟨by rfl, fun W _ => ?_⟩
    go_simp
    try with_reducible rfl
  try simp only [Act.put, List.setIfInBounds_toArray, List.set_cons_zero, List.set_cons_succ]
  refine Held3.Ways.done (by kernel_rfl) ?_ _
  obtain ⟨c0, c1, c2, c3, c4⟩ := row5_facts (HD4C.out)
  obtain ⟨g0, g1, g2, g3, g4, g5, g6, g7, g8, g9⟩ := row9_facts (HD4G.out)
  obtain ⟨m0, m1, m2, m3⟩ := row3_facts (HD4M.out)
  obtain ⟨t0, t1, t2, t3, t4, t5, t6, t7⟩ := row7l_facts (HD4T.out)
  go_wp2_with fail
  clear c0 c1 c2 c3 c4 g0 g1 g2 g3 g4 g5 g6 g7 g8 g9 m0 m1 m2 m3 t0 t1 t2 t3 t4 t5 t6 t7
  obtain ⟨X5, hX⟩ : ∃ X, X = (D4.setCell ⟨A, 4, none⟩ (.bool true)) := ⟨_, rfl⟩
  rw [← hX]
  have hX2 : X5 = sets D4 A [(4, .bool true)] := hX
  clear hX
  have HX5M : Hid (X5.heap[gm]? = some (.cells #[.slice (some ⟨A, 0, none⟩) 1 c, .map (some ba), .map (some bs)] 67 (0, 0))) := Lib.hid (by rw [hX2, sets_ne _ _ (ne_types HD4M.out HD4T.out (by decide))]; exact HD4M.out)
  have HX5G : Hid (X5.heap[gs]? = some (.cells #[.int .i64 1, .int .i64 3, .int .i64 5, .string k, .string v, .bool true, .int .u64 7, .int .i64 0, .bool true] 84 (0, 0))) := Lib.hid (by rw [hX2, sets_ne _ _ (ne_types HD4G.out HD4T.out (by decide))]; exact HD4G.out)
  have HX5T : Hid (X5.heap[A]? = some (.cells (.int .u64 7 :: .int .i64 0 :: .int .i64 1 :: .int .i64 en :: .bool true :: .bool false :: ov :: l).toArray 39 (0, 0))) := Lib.hid (by rw [hX2]; have h9 := sets_row [(4, .bool true)] D4 HD4T.out; simpa only [List.foldl_cons, List.foldl_nil, List.setIfInBounds_toArray, List.set_cons_zero, List.set_cons_succ] using h9)
  have HX5O : Hid (X5.heap[go]? = some (.cells co 54 (0, 0))) := Lib.hid (by rw [hX2, sets_ne _ _ (ne_types HD4O.out HD4T.out (by decide))]; exact HD4O.out)
  have HX5P : Hid (X5.heap[w.heap.size]? = some (.cells #[.int .i64 0, .int .i64 1] 71 (0, 0))) := Lib.hid (by rw [hX2, sets_ne _ _ (ne_types HD4P.out HD4T.out (by decide))]; exact HD4P.out)
  have HX5C : Hid (X5.heap[w.heap.size + 1]? = some (.cells #[.int .i64 1, .int .i64 3, .int .i64 5, .string k, .string v] 26 (0, 0))) := Lib.hid (by rw [hX2, sets_ne _ _ (ne_types HD4C.out HD4T.out (by decide))]; exact HD4C.out)
  have HX5S : Hid (SessAt X5 bs [((0, 1), gs)]) := Lib.hid (MapAt.kept HD4S.out (by rw [hX2, sets_ne _ _ (map_ne_row HD4S.out HD4T.out)]))
  have HX5A : Hid (AtAt X5 ba [((7, 0), 0)]) := Lib.hid (MapAt.kept HD4A.out (by rw [hX2, sets_ne _ _ (map_ne_row HD4A.out HD4T.out)]))
  have HX5F : Hid (Below B w X5) := Lib.hid (by rw [hX2]; exact sets_below _ HD4F.out HLT.out)
  have HX5Z : Hid (w.heap.size + 2 ≤ X5.heap.size) := Lib.hid (by rw [hX2, sets_size]; exact HD4Z.out)
  clear HD4M HD4G HD4T HD4O HD4P HD4C HD4S HD4A HD4F HD4Z hX2
  go_end0
  exact ⟨rfl, ⟨HX5M.out, HX5S.out, HX5A.out, HX5G.out, HLM.out, HLS.out, HLA.out, HLG.out, HNE.out⟩, ⟨HX5T.out, HLT.out⟩, HX5O.out, HX5F.out⟩
end Go.Proofs.Ythkacajlbenflaa.HistA
