/- The head answers true. -/
import Derived.Test.YthkacajlbenflaaHistJ
set_option linter.unusedVariables false
set_option linter.unusedSimpArgs false
set_option linter.unusedSectionVars false
namespace Go.Proofs.Ythkacajlbenflaa.HistA
open Go.RowKit Go.WideShapes Go.Deep Go.Proofs.Ythkacajlbenflaa.Mem Go.Proofs.Ythkacajlbenflaa.Maps Go.Proofs.Ythkacajlbenflaa.Kv Go.Proofs.Ythkacajlbenflaa.Open
theorem ty_ev : Ty Try.prog 34 16 144 (.agg #[.int .i64 0, .int .i64 0, .int .i64 0, .int .i64 0, .int .i64 0, .string ⟨#[]⟩, .string ⟨#[]⟩, .int .i64 0, .int .i64 0, .int .i64 0, .string ⟨#[]⟩, .bool false, .int .u64 0, .int .i64 0, .bool false, .bool false]) := Ty.of (by kernel_rfl) rfl
theorem row4l_facts {w : World} {g : Nat} {a b c d : Value} {l : List Value} {t : TypeId} (hr : w.heap[g]? = some (.cells (a :: b :: c :: d :: l).toArray t (0, 0))) :
    w.cell? ⟨g, 0, none⟩ = some a ∧ w.cell? ⟨g, 1, none⟩ = some b ∧ w.cell? ⟨g, 2, none⟩ = some c ∧ w.cell? ⟨g, 3, none⟩ = some d :=
  ⟨row_at hr (by simp), row_at hr (by simp), row_at hr (by simp), row_at hr (by simp)⟩
set_option maxHeartbeats 4000000 in
set_option maxRecDepth 100000 in
theorem head_any (w : World) : Calls Try.prog 8 #[] w fun e w' => e = .returned (.bool true) ∧ Below w.heap.size w w' := by
  go_enter Try.func8, Try.ntmps8
  go_upto_region 2 with fail
  obtain ⟨X, hX⟩ : ∃ X, X = w.alloc (.cells #[.int .u64 7, .int .i64 0] 30) := ⟨_, rfl⟩
  rw [← hX]
  have HXF : Hid (Below w.heap.size w X) := by rw [hX]; exact (Below.refl _ _).alloc (Nat.le_refl _) _
  have HXT : Hid (X.heap[w.heap.size]? = some (.cells #[.int .u64 7, .int .i64 0] 30 (0, 0))) := by rw [hX]; exact Lib.hid (heap_alloc_new w _)
  clear hX
  obtain ⟨D, hD⟩ : ∃ D, D = X.drew := ⟨_, rfl⟩
  have HDF : Hid (Below w.heap.size w D) := by rw [hD]; exact below_drewN HXF.out 1
  have HDT : Hid (D.heap[w.heap.size]? = some (.cells #[.int .u64 7, .int .i64 0] 30 (0, 0))) := by rw [hD]; exact HXT
  refine Held3.ways_start (fun _ W W' => Below D.heap.size D W → Below D.heap.size D W') (by kernel_rfl) ?_
  rw [← hD]
  clear hD HXF HXT
  refine Held3.Ways.take (i := 0) (oi := ?o1) (fun W : World => Below D.heap.size D W) (fun _ => true) ?v1 ?hi1 ?hs1 ?hf1 ?hlw1 ?hr1 ?hQ1 (Below.refl _ _) ?hy1 (fun _ _ _ h _ => h) (fun _ _ => id) ?rest1
  case hi1 => exact rfl
  case hs1 => kernel_rfl
  case hf1 => kernel_rfl
  case hlw1 => kernel_rfl
  case hr1 => kernel_rfl
  case hQ1 => exact fun _ _ _ h => h
  case hy1 =>
    refine .inl ⟨by rfl, fun W hW => ?_⟩
    obtain ⟨t0, t1⟩ := row2c ((hW.block _ (Array.getElem?_eq_some_iff.1 HDT.out).1).trans HDT.out)
    go_simp
    try with_reducible rfl
  try simp only [Act.put, List.setIfInBounds_toArray, List.set_cons_zero, List.set_cons_succ]
  refine Held3.Ways.plain (i := 1) (oi := ?o2) ?v2 ?hi2 ?hs2 ?hf2 ?hr2 ?hQ2 ?hy2 (fun _ _ => id) ?rest2
  case hi2 => exact rfl
  case hs2 => kernel_rfl
  case hf2 => kernel_rfl
  case hr2 => kernel_rfl
  case hQ2 => exact fun _ _ _ h => h
  case hy2 =>
    refine .inl ⟨by rfl, fun W _ => ?_⟩
    go_simp
    try with_reducible rfl
  try simp only [Act.put, List.setIfInBounds_toArray, List.set_cons_zero, List.set_cons_succ]
  refine Held3.Ways.take (i := 3) (oi := ?o3) (fun W : World => Below D.heap.size D W) (fun _ => true) ?v3 ?hi3 ?hs3 ?hf3 ?hlw3 ?hr3 ?hQ3 (Below.refl _ _) ?hy3 (fun _ _ _ h _ => h) (fun _ _ => id) ?rest3
  case hi3 => exact rfl
  case hs3 => kernel_rfl
  case hf3 => kernel_rfl
  case hlw3 => kernel_rfl
  case hr3 => kernel_rfl
  case hQ3 => exact fun _ _ _ h => h
  case hy3 =>
    refine .inl ⟨by rfl, fun W hW => ?_⟩
    obtain ⟨t0, t1⟩ := row2c ((hW.block _ (Array.getElem?_eq_some_iff.1 HDT.out).1).trans HDT.out)
    go_simp
    try with_reducible rfl
  try simp only [Act.put, List.setIfInBounds_toArray, List.set_cons_zero, List.set_cons_succ]
  refine Held3.Ways.plain (i := 4) (oi := ?o4) ?v4 ?hi4 ?hs4 ?hf4 ?hr4 ?hQ4 ?hy4 (fun _ _ => id) ?rest4
  case hi4 => exact rfl
  case hs4 => kernel_rfl
  case hf4 => kernel_rfl
  case hr4 => kernel_rfl
  case hQ4 => exact fun _ _ _ h => h
  case hy4 =>
    refine .inl ⟨by rfl, fun W _ => ?_⟩
    go_simp
    try with_reducible rfl
  try simp only [Act.put, List.setIfInBounds_toArray, List.set_cons_zero, List.set_cons_succ]
  refine Held3.Ways.take (i := 7) (oi := ?o5) (fun W : World => Below D.heap.size D W) (fun _ => true) ?v5 ?hi5 ?hs5 ?hf5 ?hlw5 ?hr5 ?hQ5 (Below.refl _ _) ?hy5 (fun _ _ _ h _ => h) (fun _ _ => id) ?rest5
  case hi5 => exact rfl
  case hs5 => kernel_rfl
  case hf5 => kernel_rfl
  case hlw5 => kernel_rfl
  case hr5 => kernel_rfl
  case hQ5 => exact fun _ _ _ h => h
  case hy5 =>
    refine .inl ⟨by rfl, fun W hW => ?_⟩
    obtain ⟨t0, t1⟩ := row2c ((hW.block _ (Array.getElem?_eq_some_iff.1 HDT.out).1).trans HDT.out)
    go_simp
    try with_reducible rfl
  try simp only [Act.put, List.setIfInBounds_toArray, List.set_cons_zero, List.set_cons_succ]
  refine Held3.Ways.plain (i := 8) (oi := ?o6) ?v6 ?hi6 ?hs6 ?hf6 ?hr6 ?hQ6 ?hy6 (fun _ _ => id) ?rest6
  case hi6 => exact rfl
  case hs6 => kernel_rfl
  case hf6 => kernel_rfl
  case hr6 => kernel_rfl
  case hQ6 => exact fun _ _ _ h => h
  case hy6 =>
    refine .inl ⟨by rfl, fun W _ => ?_⟩
    go_simp
    try with_reducible rfl
  try simp only [Act.put, List.setIfInBounds_toArray, List.set_cons_zero, List.set_cons_succ]
  refine Held3.Ways.one (i := 2) (by rfl) (by kernel_rfl) (fun K hK => ?_)
  go_simp
  go_at_call 20
  refine (pair_any _ _ _ _ _ _ _ _ _ _ _ _).mono ?_
  rintro e W1 ⟨g1, hg, rfl, hr, hb⟩
  have HGW1 := Lib.hid hg
  have HRW1 := Lib.hid hr
  have HBW1 : Hid (Below D.heap.size D W1) := hb
  have HDW1 : Hid (Below D.heap.size D W1) := HBW1
  clear hg hr hb
  dsimp only
  refine hK.out _ _ (fun h => below_then h h.size HBW1.out) ?_
  clear hK K
  try simp only [Act.put, List.setIfInBounds_toArray, List.set_cons_zero, List.set_cons_succ]
  refine Held3.Ways.one (i := 5) (by rfl) (by kernel_rfl) (fun K hK => ?_)
  go_simp
  go_at_call 20
  refine (pair_any _ _ _ _ _ _ _ _ _ _ _ _).mono ?_
  rintro e W2 ⟨g2, hg, rfl, hr, hb⟩
  have HGW2 := Lib.hid hg
  have HRW2 := Lib.hid hr
  have HBW2 : Hid (Below W1.heap.size W1 W2) := hb
  have HDW2 : Hid (Below D.heap.size D W2) := below_then HDW1.out HDW1.out.size HBW2.out
  clear hg hr hb
  dsimp only
  refine hK.out _ _ (fun h => below_then h h.size HBW2.out) ?_
  clear hK K
  try simp only [Act.put, List.setIfInBounds_toArray, List.set_cons_zero, List.set_cons_succ]
  have HOA : Hid (Own W2 D.heap.size 34 16 (.slice (some ⟨g1, 0, none⟩) 2 2) 2 (evc (pairEv 1 1 ⟨#[]⟩ ⟨#[]⟩ 0 ⟨#[]⟩ false 7 0))) := Lib.hid ⟨rfl, .inr ⟨g1, 0, 2, _, rfl, HGW1.out, (HBW2.out.block _ (Array.getElem?_eq_some_iff.1 HRW1.out).1).trans HRW1.out, Nat.le_refl _, by decide, by decide, rfl⟩⟩
  obtain ⟨v3, W0, hrun, ho, hgr, hbl, _⟩ := run_append (P := Try.prog) W2 (ty := 22) Try.underlying22 Try.underlying22 ty_ev (base := D.heap.size) HOA.out (A := some ⟨g2, 0, none⟩) (m := 2) (c := 2) (news := evc (pairEv 2 3 ⟨#[97]⟩ ⟨#[120]⟩ 0 ⟨#[]⟩ false 7 0)) rfl (fun _ => ⟨_, _, rfl, fun j u hu => by rw [Nat.zero_add]; exact row_at HRW2.out (by simpa using hu)⟩) (evc_one _) (by unfold maxLen; omega) (by omega) HDW2.out.size
  obtain ⟨W3, hW0⟩ : ∃ Y, Y = W0 := ⟨_, rfl⟩
  rw [← hW0] at hrun ho hgr
  clear hW0 W0 hbl
  have hdoes : Does Try.prog W2 (Builtin.append_ #[22, 22] 22 #[.slice (some ⟨g1, 0, none⟩) 2 2, .slice (some ⟨g2, 0, none⟩) 2 2]) (fun v w' => v = v3 ∧ w' = W3) := Does.mk hrun ⟨rfl, rfl⟩
  have hf : Below D.heap.size D W3 := HDW2.out.trans ((Fr.of_grown (S := fun g => (.slice (some ⟨g1, 0, none⟩) 2 2 : Value).ownBlock = some g) hgr (fun _ e => e)).below HDW2.out.size (fun g _ hg => (HOA.out).lt g hg |>.1))
  have HOW3 := Lib.hid ho
  have HDW3 := Lib.hid hf
  have HDO := Lib.hid hdoes
  have HGR := Lib.hid hgr
  clear hrun ho hgr hf hdoes
  refine Held3.Ways.one (i := 6) (by rfl) (by kernel_rfl) (fun K hK => ?_)
  refine step_append rfl _ _ 22 22 rfl (by simp [Act.eval, Act.put]) (by simp [Act.eval, Act.put]) HDO.out ?_
  rintro v9 w9 ⟨hv9, hw9⟩
  rw [hv9, hw9]
  clear hv9 hw9 v9 w9
  refine hK.out _ _ (fun _ => HDW3.out) ?_
  clear hK K HDO HGR
  try simp only [Act.put, List.setIfInBounds_toArray, List.set_cons_zero, List.set_cons_succ]
  refine Held3.Ways.one (i := 9) (by rfl) (by kernel_rfl) (fun K hK => ?_)
  go_simp
  go_at_call 20
  refine (pair_any _ _ _ _ _ _ _ _ _ _ _ _).mono ?_
  rintro e W4 ⟨g4, hg, rfl, hr, hb⟩
  have HGW4 := Lib.hid hg
  have HRW4 := Lib.hid hr
  have HBW4 : Hid (Below W3.heap.size W3 W4) := hb
  have HDW4 : Hid (Below D.heap.size D W4) := below_then HDW3.out HDW3.out.size HBW4.out
  clear hg hr hb
  dsimp only
  refine hK.out _ _ (fun h => below_then h h.size HBW4.out) ?_
  clear hK K
  try simp only [Act.put, List.setIfInBounds_toArray, List.set_cons_zero, List.set_cons_succ]
  have HOB : Hid (Own W4 D.heap.size 34 16 v3 4 (evc (pairEv 1 1 ⟨#[]⟩ ⟨#[]⟩ 0 ⟨#[]⟩ false 7 0) ++ evc (pairEv 2 3 ⟨#[97]⟩ ⟨#[120]⟩ 0 ⟨#[]⟩ false 7 0))) := Lib.hid (Own.below HOW3.out HBW4.out)
  obtain ⟨A3, c3, hv3, _, _⟩ := HOB.out.slice_
  subst hv3
  obtain ⟨v5, W0, hrun, ho, hgr, hbl, _⟩ := run_append (P := Try.prog) W4 (ty := 22) Try.underlying22 Try.underlying22 ty_ev (base := D.heap.size) HOB.out (A := some ⟨g4, 0, none⟩) (m := 2) (c := 2) (news := evc (pairEv 3 5 ⟨#[]⟩ ⟨#[]⟩ 0 ⟨#[]⟩ false 7 0)) rfl (fun _ => ⟨_, _, rfl, fun j u hu => by rw [Nat.zero_add]; exact row_at HRW4.out (by simpa using hu)⟩) (evc_one _) (by unfold maxLen; omega) (by omega) HDW4.out.size
  obtain ⟨W5, hW0⟩ : ∃ Y, Y = W0 := ⟨_, rfl⟩
  rw [← hW0] at hrun ho hgr
  clear hW0 W0 hbl
  have hdoes : Does Try.prog W4 (Builtin.append_ #[22, 22] 22 #[.slice A3 4 c3, .slice (some ⟨g4, 0, none⟩) 2 2]) (fun v w' => v = v5 ∧ w' = W5) := Does.mk hrun ⟨rfl, rfl⟩
  have hf : Below D.heap.size D W5 := HDW4.out.trans ((Fr.of_grown (S := fun g => (.slice A3 4 c3 : Value).ownBlock = some g) hgr (fun _ e => e)).below HDW4.out.size (fun g _ hg => (HOB.out).lt g hg |>.1))
  have HOW5 := Lib.hid ho
  have HDW5 := Lib.hid hf
  have HDO := Lib.hid hdoes
  have HGR := Lib.hid hgr
  clear hrun ho hgr hf hdoes
  refine Held3.Ways.one (i := 10) (by rfl) (by kernel_rfl) (fun K hK => ?_)
  refine step_append rfl _ _ 22 22 rfl (by simp [Act.eval, Act.put]) (by simp [Act.eval, Act.put]) HDO.out ?_
  rintro v9 w9 ⟨hv9, hw9⟩
  rw [hv9, hw9]
  clear hv9 hw9 v9 w9
  refine hK.out _ _ (fun _ => HDW5.out) ?_
  clear hK K HDO HGR
  try simp only [Act.put, List.setIfInBounds_toArray, List.set_cons_zero, List.set_cons_succ]
  refine Held3.Ways.plain (i := 11) (oi := ?o7) ?v7 ?hi7 ?hs7 ?hf7 ?hr7 ?hQ7 ?hy7 (fun _ _ => id) ?rest7
  case hi7 => exact rfl
  case hs7 => kernel_rfl
  case hf7 => kernel_rfl
  case hr7 => kernel_rfl
  case hQ7 => exact fun _ _ _ h => h
  case hy7 =>
    refine .inl ⟨by rfl, fun W _ => ?_⟩
    go_simp
    try with_reducible rfl
  try simp only [Act.put, List.setIfInBounds_toArray, List.set_cons_zero, List.set_cons_succ]
  refine Held3.Ways.done (by kernel_rfl) ?_ _
  obtain ⟨A5, c5, hv5, _, _⟩ := HOW5.out.slice_
  subst hv5
  have HRD : Hid (Rd W5 W5.heap.size 16 (.slice A5 6 c5) 6 (evc headEvs)) := Lib.hid (by have h9 := HOW5.out.rd; rw [← evc_append, ← evc_append] at h9; exact h9)
  go_upto_region 3 with fail
  go_wp2_with fail
  refine (of_head W5 HRD.out).mono ?_
  rintro e W6 ⟨v, rfl, ⟨A, c, l, go, co, lo, rfl, hA, hgo⟩, hb6⟩
  have HA := Lib.hid hA
  have HGO := Lib.hid hgo
  have HD6 : Hid (Below D.heap.size D W6) := below_then HDW5.out HDW5.out.size hb6
  have HT6 : Hid (W6.heap[w.heap.size]? = some (.cells #[.int .u64 7, .int .i64 0] 30 (0, 0))) := Lib.hid ((HD6.out.block _ (Array.getElem?_eq_some_iff.1 HDT.out).1).trans HDT.out)
  have HF6 : Hid (Below w.heap.size w W6) := below_then HDF.out (by have := HDF.out.size; exact this) HD6.out
  clear hA hgo hb6 HRD HOW5 HDW5 HDT HDF HD6
  go_upto_region 4 with fail
  obtain ⟨E, hE⟩ : ∃ E, E = W6.drew := ⟨_, rfl⟩
  have hEh : E.heap = W6.heap := by rw [hE]; rfl
  have HEF : Hid (Below w.heap.size w E) := Lib.hid (by rw [hE]; exact below_drewN HF6.out 1)
  refine Held3.ways_start (fun _ W W' => W.heap = E.heap → W'.heap = E.heap) (by kernel_rfl) ?_
  rw [← hE]
  clear hE
  refine Held3.Ways.plain (i := 0) (oi := ?o8) ?v8 ?hi8 ?hs8 ?hf8 ?hr8 ?hQ8 ?hy8 (fun _ _ => id) ?rest8
  case hi8 => exact rfl
  case hs8 => kernel_rfl
  case hf8 => kernel_rfl
  case hr8 => kernel_rfl
  case hQ8 => exact fun _ _ _ h => h
  case hy8 =>
    refine .inl ⟨by rfl, fun W _ => ?_⟩
    go_simp
    try with_reducible rfl
  try simp only [Act.put, List.setIfInBounds_toArray, List.set_cons_zero, List.set_cons_succ]
  refine Held3.Ways.plain (i := 1) (oi := ?o9) ?v9 ?hi9 ?hs9 ?hf9 ?hr9 ?hQ9 ?hy9 (fun _ _ => id) ?rest9
  case hi9 => exact rfl
  case hs9 => kernel_rfl
  case hf9 => kernel_rfl
  case hr9 => kernel_rfl
  case hQ9 => exact fun _ _ _ h => h
  case hy9 =>
    refine .inl ⟨by rfl, fun W _ => ?_⟩
    go_simp
    try with_reducible rfl
  try simp only [Act.put, List.setIfInBounds_toArray, List.set_cons_zero, List.set_cons_succ]
  refine Held3.Ways.plain (i := 2) (oi := ?o10) ?v10 ?hi10 ?hs10 ?hf10 ?hr10 ?hQ10 ?hy10 (fun _ _ => id) ?rest10
  case hi10 => exact rfl
  case hs10 => kernel_rfl
  case hf10 => kernel_rfl
  case hr10 => kernel_rfl
  case hQ10 => exact fun _ _ _ h => h
  case hy10 =>
    refine .inl ⟨by rfl, fun W _ => ?_⟩
    go_simp
    try with_reducible rfl
  try simp only [Act.put, List.setIfInBounds_toArray, List.set_cons_zero, List.set_cons_succ]
  refine Held3.Ways.plain (i := 3) (oi := ?o11) ?v11 ?hi11 ?hs11 ?hf11 ?hr11 ?hQ11 ?hy11 (fun _ _ => id) ?rest11
  case hi11 => exact rfl
  case hs11 => kernel_rfl
  case hf11 => kernel_rfl
  case hr11 => kernel_rfl
  case hQ11 => exact fun _ _ _ h => h
  case hy11 =>
    refine .inl ⟨by rfl, fun W _ => ?_⟩
    go_simp
    try with_reducible rfl
  try simp only [Act.put, List.setIfInBounds_toArray, List.set_cons_zero, List.set_cons_succ]
  refine Held3.Ways.plain (i := 4) (oi := ?o12) ?v12 ?hi12 ?hs12 ?hf12 ?hr12 ?hQ12 ?hy12 (fun _ _ => id) ?rest12
  case hi12 => exact rfl
  case hs12 => kernel_rfl
  case hf12 => kernel_rfl
  case hr12 => kernel_rfl
  case hQ12 => exact fun _ _ _ h => h
  case hy12 =>
    refine .inl ⟨by rfl, fun W _ => ?_⟩
    go_simp
    try with_reducible rfl
  try simp only [Act.put, List.setIfInBounds_toArray, List.set_cons_zero, List.set_cons_succ]
  refine Held3.Ways.plain (i := 5) (oi := ?o13) ?v13 ?hi13 ?hs13 ?hf13 ?hr13 ?hQ13 ?hy13 (fun _ _ => id) ?rest13
  case hi13 => exact rfl
  case hs13 => kernel_rfl
  case hf13 => kernel_rfl
  case hr13 => kernel_rfl
  case hQ13 => exact fun _ _ _ h => h
  case hy13 =>
    refine .inl ⟨by rfl, fun W _ => ?_⟩
    go_simp
    try with_reducible rfl
  try simp only [Act.put, List.setIfInBounds_toArray, List.set_cons_zero, List.set_cons_succ]
  refine Held3.Ways.plain (i := 6) (oi := ?o14) ?v14 ?hi14 ?hs14 ?hf14 ?hr14 ?hQ14 ?hy14 (fun _ _ => id) ?rest14
  case hi14 => exact rfl
  case hs14 => kernel_rfl
  case hf14 => kernel_rfl
  case hr14 => kernel_rfl
  case hQ14 => exact fun _ _ _ h => h
  case hy14 =>
    refine .inl ⟨by rfl, fun W _ => ?_⟩
    go_simp
    try with_reducible rfl
  try simp only [Act.put, List.setIfInBounds_toArray, List.set_cons_zero, List.set_cons_succ]
  refine Held3.Ways.take (i := 7) (oi := ?o15) (fun W : World => W.heap = E.heap) (fun _ => true) ?v15 ?hi15 ?hs15 ?hf15 ?hlw15 ?hr15 ?hQ15 rfl ?hy15 (fun _ _ _ h _ => h) (fun _ _ => id) ?rest15
  case hi15 => exact rfl
  case hs15 => kernel_rfl
  case hf15 => kernel_rfl
  case hlw15 => kernel_rfl
  case hr15 => kernel_rfl
  case hQ15 => exact fun _ _ _ h => h
  case hy15 =>
    refine .inl ⟨by rfl, fun W hW => ?_⟩
    obtain ⟨t0, t1⟩ := row2c (show W.heap[w.heap.size]? = _ by rw [hW, hEh]; exact HT6.out)
    obtain ⟨a0, a1, a2, a3, a4, a5, a6, a7⟩ := row7l_facts (show W.heap[A]? = _ by rw [hW, hEh]; exact HA.out)
    obtain ⟨o0, o1, o2, o3⟩ := row4l_facts (show W.heap[go]? = _ by rw [hW, hEh]; exact HGO.out)
    go_simp
    try with_reducible rfl
  try simp only [Act.put, List.setIfInBounds_toArray, List.set_cons_zero, List.set_cons_succ]
  refine Held3.Ways.take (i := 8) (oi := ?o16) (fun W : World => W.heap = E.heap) (fun _ => true) ?v16 ?hi16 ?hs16 ?hf16 ?hlw16 ?hr16 ?hQ16 rfl ?hy16 (fun _ _ _ h _ => h) (fun _ _ => id) ?rest16
  case hi16 => exact rfl
  case hs16 => kernel_rfl
  case hf16 => kernel_rfl
  case hlw16 => kernel_rfl
  case hr16 => kernel_rfl
  case hQ16 => exact fun _ _ _ h => h
  case hy16 =>
    refine .inl ⟨by rfl, fun W hW => ?_⟩
    obtain ⟨t0, t1⟩ := row2c (show W.heap[w.heap.size]? = _ by rw [hW, hEh]; exact HT6.out)
    obtain ⟨a0, a1, a2, a3, a4, a5, a6, a7⟩ := row7l_facts (show W.heap[A]? = _ by rw [hW, hEh]; exact HA.out)
    obtain ⟨o0, o1, o2, o3⟩ := row4l_facts (show W.heap[go]? = _ by rw [hW, hEh]; exact HGO.out)
    go_simp
    try with_reducible rfl
  try simp only [Act.put, List.setIfInBounds_toArray, List.set_cons_zero, List.set_cons_succ]
  refine Held3.Ways.plain (i := 9) (oi := ?o17) ?v17 ?hi17 ?hs17 ?hf17 ?hr17 ?hQ17 ?hy17 (fun _ _ => id) ?rest17
  case hi17 => exact rfl
  case hs17 => kernel_rfl
  case hf17 => kernel_rfl
  case hr17 => kernel_rfl
  case hQ17 => exact fun _ _ _ h => h
  case hy17 =>
    refine .inl ⟨by rfl, fun W _ => ?_⟩
    go_simp
    try with_reducible rfl
  try simp only [Act.put, List.setIfInBounds_toArray, List.set_cons_zero, List.set_cons_succ]
  refine Held3.Ways.plain (i := 10) (oi := ?o18) ?v18 ?hi18 ?hs18 ?hf18 ?hr18 ?hQ18 ?hy18 (fun _ _ => id) ?rest18
  case hi18 => exact rfl
  case hs18 => kernel_rfl
  case hf18 => kernel_rfl
  case hr18 => kernel_rfl
  case hQ18 => exact fun _ _ _ h => h
  case hy18 =>
    refine .inl ⟨by rfl, fun W _ => ?_⟩
    go_simp
    try with_reducible rfl
  try simp only [Act.put, List.setIfInBounds_toArray, List.set_cons_zero, List.set_cons_succ]
  refine Held3.Ways.plain (i := 11) (oi := ?o19) ?v19 ?hi19 ?hs19 ?hf19 ?hr19 ?hQ19 ?hy19 (fun _ _ => id) ?rest19
  case hi19 => exact rfl
  case hs19 => kernel_rfl
  case hf19 => kernel_rfl
  case hr19 => kernel_rfl
  case hQ19 => exact fun _ _ _ h => h
  case hy19 =>
    refine .inl ⟨by rfl, fun W _ => ?_⟩
    go_simp
    try with_reducible rfl
  try simp only [Act.put, List.setIfInBounds_toArray, List.set_cons_zero, List.set_cons_succ]
  refine Held3.Ways.plain (i := 12) (oi := ?o20) ?v20 ?hi20 ?hs20 ?hf20 ?hr20 ?hQ20 ?hy20 (fun _ _ => id) ?rest20
  case hi20 => exact rfl
  case hs20 => kernel_rfl
  case hf20 => kernel_rfl
  case hr20 => kernel_rfl
  case hQ20 => exact fun _ _ _ h => h
  case hy20 =>
    refine .inl ⟨by rfl, fun W _ => ?_⟩
    go_simp
    try with_reducible rfl
  try simp only [Act.put, List.setIfInBounds_toArray, List.set_cons_zero, List.set_cons_succ]
  refine Held3.Ways.plain (i := 13) (oi := ?o21) ?v21 ?hi21 ?hs21 ?hf21 ?hr21 ?hQ21 ?hy21 (fun _ _ => id) ?rest21
  case hi21 => exact rfl
  case hs21 => kernel_rfl
  case hf21 => kernel_rfl
  case hr21 => kernel_rfl
  case hQ21 => exact fun _ _ _ h => h
  case hy21 =>
    refine .inl ⟨by rfl, fun W _ => ?_⟩
    go_simp
    try with_reducible rfl
  try simp only [Act.put, List.setIfInBounds_toArray, List.set_cons_zero, List.set_cons_succ]
  refine Held3.Ways.plain (i := 14) (oi := ?o22) ?v22 ?hi22 ?hs22 ?hf22 ?hr22 ?hQ22 ?hy22 (fun _ _ => id) ?rest22
  case hi22 => exact rfl
  case hs22 => kernel_rfl
  case hf22 => kernel_rfl
  case hr22 => kernel_rfl
  case hQ22 => exact fun _ _ _ h => h
  case hy22 =>
    refine .inl ⟨by rfl, fun W _ => ?_⟩
    go_simp
    try with_reducible rfl
  try simp only [Act.put, List.setIfInBounds_toArray, List.set_cons_zero, List.set_cons_succ]
  refine Held3.Ways.take (i := 15) (oi := ?o23) (fun W : World => W.heap = E.heap) (fun _ => true) ?v23 ?hi23 ?hs23 ?hf23 ?hlw23 ?hr23 ?hQ23 rfl ?hy23 (fun _ _ _ h _ => h) (fun _ _ => id) ?rest23
  case hi23 => exact rfl
  case hs23 => kernel_rfl
  case hf23 => kernel_rfl
  case hlw23 => kernel_rfl
  case hr23 => kernel_rfl
  case hQ23 => exact fun _ _ _ h => h
  case hy23 =>
    refine .inl ⟨by rfl, fun W hW => ?_⟩
    obtain ⟨t0, t1⟩ := row2c (show W.heap[w.heap.size]? = _ by rw [hW, hEh]; exact HT6.out)
    obtain ⟨a0, a1, a2, a3, a4, a5, a6, a7⟩ := row7l_facts (show W.heap[A]? = _ by rw [hW, hEh]; exact HA.out)
    obtain ⟨o0, o1, o2, o3⟩ := row4l_facts (show W.heap[go]? = _ by rw [hW, hEh]; exact HGO.out)
    go_simp
    try with_reducible rfl
  try simp only [Act.put, List.setIfInBounds_toArray, List.set_cons_zero, List.set_cons_succ]
  refine Held3.Ways.plain (i := 16) (oi := ?o24) ?v24 ?hi24 ?hs24 ?hf24 ?hr24 ?hQ24 ?hy24 (fun _ _ => id) ?rest24
  case hi24 => exact rfl
  case hs24 => kernel_rfl
  case hf24 => kernel_rfl
  case hr24 => kernel_rfl
  case hQ24 => exact fun _ _ _ h => h
  case hy24 =>
    refine .inl ⟨by rfl, fun W _ => ?_⟩
    go_simp
    try with_reducible rfl
  try simp only [Act.put, List.setIfInBounds_toArray, List.set_cons_zero, List.set_cons_succ]
  refine Held3.Ways.plain (i := 17) (oi := ?o25) ?v25 ?hi25 ?hs25 ?hf25 ?hr25 ?hQ25 ?hy25 (fun _ _ => id) ?rest25
  case hi25 => exact rfl
  case hs25 => kernel_rfl
  case hf25 => kernel_rfl
  case hr25 => kernel_rfl
  case hQ25 => exact fun _ _ _ h => h
  case hy25 =>
    refine .inl ⟨by rfl, fun W _ => ?_⟩
    go_simp
    try with_reducible rfl
  try simp only [Act.put, List.setIfInBounds_toArray, List.set_cons_zero, List.set_cons_succ]
  refine Held3.Ways.plain (i := 18) (oi := ?o26) ?v26 ?hi26 ?hs26 ?hf26 ?hr26 ?hQ26 ?hy26 (fun _ _ => id) ?rest26
  case hi26 => exact rfl
  case hs26 => kernel_rfl
  case hf26 => kernel_rfl
  case hr26 => kernel_rfl
  case hQ26 => exact fun _ _ _ h => h
  case hy26 =>
    refine .inl ⟨by rfl, fun W _ => ?_⟩
    go_simp
    try with_reducible rfl
  try simp only [Act.put, List.setIfInBounds_toArray, List.set_cons_zero, List.set_cons_succ]
  refine Held3.Ways.plain (i := 19) (oi := ?o27) ?v27 ?hi27 ?hs27 ?hf27 ?hr27 ?hQ27 ?hy27 (fun _ _ => id) ?rest27
  case hi27 => exact rfl
  case hs27 => kernel_rfl
  case hf27 => kernel_rfl
  case hr27 => kernel_rfl
  case hQ27 => exact fun _ _ _ h => h
  case hy27 =>
    refine .inl ⟨by rfl, fun W _ => ?_⟩
    go_simp
    try with_reducible rfl
  try simp only [Act.put, List.setIfInBounds_toArray, List.set_cons_zero, List.set_cons_succ]
  refine Held3.Ways.plain (i := 20) (oi := ?o28) ?v28 ?hi28 ?hs28 ?hf28 ?hr28 ?hQ28 ?hy28 (fun _ _ => id) ?rest28
  case hi28 => exact rfl
  case hs28 => kernel_rfl
  case hf28 => kernel_rfl
  case hr28 => kernel_rfl
  case hQ28 => exact fun _ _ _ h => h
  case hy28 =>
    refine .inl ⟨by rfl, fun W _ => ?_⟩
    go_simp
    try with_reducible rfl
  try simp only [Act.put, List.setIfInBounds_toArray, List.set_cons_zero, List.set_cons_succ]
  refine Held3.Ways.plain (i := 21) (oi := ?o29) ?v29 ?hi29 ?hs29 ?hf29 ?hr29 ?hQ29 ?hy29 (fun _ _ => id) ?rest29
  case hi29 => exact rfl
  case hs29 => kernel_rfl
  case hf29 => kernel_rfl
  case hr29 => kernel_rfl
  case hQ29 => exact fun _ _ _ h => h
  case hy29 =>
    refine .inl ⟨by rfl, fun W _ => ?_⟩
    go_simp
    try with_reducible rfl
  try simp only [Act.put, List.setIfInBounds_toArray, List.set_cons_zero, List.set_cons_succ]
  refine Held3.Ways.plain (i := 22) (oi := ?o30) ?v30 ?hi30 ?hs30 ?hf30 ?hr30 ?hQ30 ?hy30 (fun _ _ => id) ?rest30
  case hi30 => exact rfl
  case hs30 => kernel_rfl
  case hf30 => kernel_rfl
  case hr30 => kernel_rfl
  case hQ30 => exact fun _ _ _ h => h
  case hy30 =>
    refine .inl ⟨by rfl, fun W _ => ?_⟩
    go_simp
    try with_reducible rfl
  try simp only [Act.put, List.setIfInBounds_toArray, List.set_cons_zero, List.set_cons_succ]
  refine Held3.Ways.take (i := 23) (oi := ?o31) (fun W : World => W.heap = E.heap) (fun _ => true) ?v31 ?hi31 ?hs31 ?hf31 ?hlw31 ?hr31 ?hQ31 rfl ?hy31 (fun _ _ _ h _ => h) (fun _ _ => id) ?rest31
  case hi31 => exact rfl
  case hs31 => kernel_rfl
  case hf31 => kernel_rfl
  case hlw31 => kernel_rfl
  case hr31 => kernel_rfl
  case hQ31 => exact fun _ _ _ h => h
  case hy31 =>
    refine .inl ⟨by rfl, fun W hW => ?_⟩
    obtain ⟨t0, t1⟩ := row2c (show W.heap[w.heap.size]? = _ by rw [hW, hEh]; exact HT6.out)
    obtain ⟨a0, a1, a2, a3, a4, a5, a6, a7⟩ := row7l_facts (show W.heap[A]? = _ by rw [hW, hEh]; exact HA.out)
    obtain ⟨o0, o1, o2, o3⟩ := row4l_facts (show W.heap[go]? = _ by rw [hW, hEh]; exact HGO.out)
    go_simp
    try with_reducible rfl
  try simp only [Act.put, List.setIfInBounds_toArray, List.set_cons_zero, List.set_cons_succ]
  refine Held3.Ways.plain (i := 24) (oi := ?o32) ?v32 ?hi32 ?hs32 ?hf32 ?hr32 ?hQ32 ?hy32 (fun _ _ => id) ?rest32
  case hi32 => exact rfl
  case hs32 => kernel_rfl
  case hf32 => kernel_rfl
  case hr32 => kernel_rfl
  case hQ32 => exact fun _ _ _ h => h
  case hy32 =>
    refine .inl ⟨by rfl, fun W _ => ?_⟩
    go_simp
    try with_reducible rfl
  try simp only [Act.put, List.setIfInBounds_toArray, List.set_cons_zero, List.set_cons_succ]
  refine Held3.Ways.take (i := 25) (oi := ?o33) (fun W : World => W.heap = E.heap) (fun _ => true) ?v33 ?hi33 ?hs33 ?hf33 ?hlw33 ?hr33 ?hQ33 rfl ?hy33 (fun _ _ _ h _ => h) (fun _ _ => id) ?rest33
  case hi33 => exact rfl
  case hs33 => kernel_rfl
  case hf33 => kernel_rfl
  case hlw33 => kernel_rfl
  case hr33 => kernel_rfl
  case hQ33 => exact fun _ _ _ h => h
  case hy33 =>
    refine .inl ⟨by rfl, fun W hW => ?_⟩
    obtain ⟨t0, t1⟩ := row2c (show W.heap[w.heap.size]? = _ by rw [hW, hEh]; exact HT6.out)
    obtain ⟨a0, a1, a2, a3, a4, a5, a6, a7⟩ := row7l_facts (show W.heap[A]? = _ by rw [hW, hEh]; exact HA.out)
    obtain ⟨o0, o1, o2, o3⟩ := row4l_facts (show W.heap[go]? = _ by rw [hW, hEh]; exact HGO.out)
    go_simp
    try with_reducible rfl
  try simp only [Act.put, List.setIfInBounds_toArray, List.set_cons_zero, List.set_cons_succ]
  refine Held3.Ways.plain (i := 26) (oi := ?o34) ?v34 ?hi34 ?hs34 ?hf34 ?hr34 ?hQ34 ?hy34 (fun _ _ => id) ?rest34
  case hi34 => exact rfl
  case hs34 => kernel_rfl
  case hf34 => kernel_rfl
  case hr34 => kernel_rfl
  case hQ34 => exact fun _ _ _ h => h
  case hy34 =>
    refine .inl ⟨by rfl, fun W _ => ?_⟩
    go_simp
    try with_reducible rfl
  try simp only [Act.put, List.setIfInBounds_toArray, List.set_cons_zero, List.set_cons_succ]
  refine Held3.Ways.plain (i := 27) (oi := ?o35) ?v35 ?hi35 ?hs35 ?hf35 ?hr35 ?hQ35 ?hy35 (fun _ _ => id) ?rest35
  case hi35 => exact rfl
  case hs35 => kernel_rfl
  case hf35 => kernel_rfl
  case hr35 => kernel_rfl
  case hQ35 => exact fun _ _ _ h => h
  case hy35 =>
    refine .inl ⟨by rfl, fun W _ => ?_⟩
    go_simp
    try with_reducible rfl
  try simp only [Act.put, List.setIfInBounds_toArray, List.set_cons_zero, List.set_cons_succ]
  refine Held3.Ways.plain (i := 28) (oi := ?o36) ?v36 ?hi36 ?hs36 ?hf36 ?hr36 ?hQ36 ?hy36 (fun _ _ => id) ?rest36
  case hi36 => exact rfl
  case hs36 => kernel_rfl
  case hf36 => kernel_rfl
  case hr36 => kernel_rfl
  case hQ36 => exact fun _ _ _ h => h
  case hy36 =>
    refine .inl ⟨by rfl, fun W _ => ?_⟩
    go_simp
    try with_reducible rfl
  try simp only [Act.put, List.setIfInBounds_toArray, List.set_cons_zero, List.set_cons_succ]
  refine Held3.Ways.plain (i := 29) (oi := ?o37) ?v37 ?hi37 ?hs37 ?hf37 ?hr37 ?hQ37 ?hy37 (fun _ _ => id) ?rest37
  case hi37 => exact rfl
  case hs37 => kernel_rfl
  case hf37 => kernel_rfl
  case hr37 => kernel_rfl
  case hQ37 => exact fun _ _ _ h => h
  case hy37 =>
    refine .inl ⟨by rfl, fun W _ => ?_⟩
    go_simp
    try with_reducible rfl
  try simp only [Act.put, List.setIfInBounds_toArray, List.set_cons_zero, List.set_cons_succ]
  refine Held3.Ways.plain (i := 30) (oi := ?o38) ?v38 ?hi38 ?hs38 ?hf38 ?hr38 ?hQ38 ?hy38 (fun _ _ => id) ?rest38
  case hi38 => exact rfl
  case hs38 => kernel_rfl
  case hf38 => kernel_rfl
  case hr38 => kernel_rfl
  case hQ38 => exact fun _ _ _ h => h
  case hy38 =>
    refine .inl ⟨by rfl, fun W _ => ?_⟩
    go_simp
    try with_reducible rfl
  try simp only [Act.put, List.setIfInBounds_toArray, List.set_cons_zero, List.set_cons_succ]
  refine Held3.Ways.plain (i := 31) (oi := ?o39) ?v39 ?hi39 ?hs39 ?hf39 ?hr39 ?hQ39 ?hy39 (fun _ _ => id) ?rest39
  case hi39 => exact rfl
  case hs39 => kernel_rfl
  case hf39 => kernel_rfl
  case hr39 => kernel_rfl
  case hQ39 => exact fun _ _ _ h => h
  case hy39 =>
    refine .inl ⟨by rfl, fun W _ => ?_⟩
    go_simp
    try with_reducible rfl
  try simp only [Act.put, List.setIfInBounds_toArray, List.set_cons_zero, List.set_cons_succ]
  refine Held3.Ways.plain (i := 32) (oi := ?o40) ?v40 ?hi40 ?hs40 ?hf40 ?hr40 ?hQ40 ?hy40 (fun _ _ => id) ?rest40
  case hi40 => exact rfl
  case hs40 => kernel_rfl
  case hf40 => kernel_rfl
  case hr40 => kernel_rfl
  case hQ40 => exact fun _ _ _ h => h
  case hy40 =>
    refine .inl ⟨by rfl, fun W _ => ?_⟩
    go_simp
    try with_reducible rfl
  try simp only [Act.put, List.setIfInBounds_toArray, List.set_cons_zero, List.set_cons_succ]
  refine Held3.Ways.take (i := 33) (oi := ?o41) (fun W : World => W.heap = E.heap) (fun _ => true) ?v41 ?hi41 ?hs41 ?hf41 ?hlw41 ?hr41 ?hQ41 rfl ?hy41 (fun _ _ _ h _ => h) (fun _ _ => id) ?rest41
  case hi41 => exact rfl
  case hs41 => kernel_rfl
  case hf41 => kernel_rfl
  case hlw41 => kernel_rfl
  case hr41 => kernel_rfl
  case hQ41 => exact fun _ _ _ h => h
  case hy41 =>
    refine .inl ⟨by rfl, fun W hW => ?_⟩
    obtain ⟨t0, t1⟩ := row2c (show W.heap[w.heap.size]? = _ by rw [hW, hEh]; exact HT6.out)
    obtain ⟨a0, a1, a2, a3, a4, a5, a6, a7⟩ := row7l_facts (show W.heap[A]? = _ by rw [hW, hEh]; exact HA.out)
    obtain ⟨o0, o1, o2, o3⟩ := row4l_facts (show W.heap[go]? = _ by rw [hW, hEh]; exact HGO.out)
    go_simp
    try with_reducible rfl
  try simp only [Act.put, List.setIfInBounds_toArray, List.set_cons_zero, List.set_cons_succ]
  refine Held3.Ways.plain (i := 34) (oi := ?o42) ?v42 ?hi42 ?hs42 ?hf42 ?hr42 ?hQ42 ?hy42 (fun _ _ => id) ?rest42
  case hi42 => exact rfl
  case hs42 => kernel_rfl
  case hf42 => kernel_rfl
  case hr42 => kernel_rfl
  case hQ42 => exact fun _ _ _ h => h
  case hy42 =>
    refine .inl ⟨by rfl, fun W _ => ?_⟩
    go_simp
    try with_reducible rfl
  try simp only [Act.put, List.setIfInBounds_toArray, List.set_cons_zero, List.set_cons_succ]
  refine Held3.Ways.plain (i := 35) (oi := ?o43) ?v43 ?hi43 ?hs43 ?hf43 ?hr43 ?hQ43 ?hy43 (fun _ _ => id) ?rest43
  case hi43 => exact rfl
  case hs43 => kernel_rfl
  case hf43 => kernel_rfl
  case hr43 => kernel_rfl
  case hQ43 => exact fun _ _ _ h => h
  case hy43 =>
    refine .inl ⟨by rfl, fun W _ => ?_⟩
    go_simp
    try with_reducible rfl
  try simp only [Act.put, List.setIfInBounds_toArray, List.set_cons_zero, List.set_cons_succ]
  refine Held3.Ways.plain (i := 36) (oi := ?o44) ?v44 ?hi44 ?hs44 ?hf44 ?hr44 ?hQ44 ?hy44 (fun _ _ => id) ?rest44
  case hi44 => exact rfl
  case hs44 => kernel_rfl
  case hf44 => kernel_rfl
  case hr44 => kernel_rfl
  case hQ44 => exact fun _ _ _ h => h
  case hy44 =>
    refine .inl ⟨by rfl, fun W _ => ?_⟩
    go_simp
    try with_reducible rfl
  try simp only [Act.put, List.setIfInBounds_toArray, List.set_cons_zero, List.set_cons_succ]
  refine Held3.Ways.plain (i := 37) (oi := ?o45) ?v45 ?hi45 ?hs45 ?hf45 ?hr45 ?hQ45 ?hy45 (fun _ _ => id) ?rest45
  case hi45 => exact rfl
  case hs45 => kernel_rfl
  case hf45 => kernel_rfl
  case hr45 => kernel_rfl
  case hQ45 => exact fun _ _ _ h => h
  case hy45 =>
    refine .inl ⟨by rfl, fun W _ => ?_⟩
    go_simp
    try with_reducible rfl
  try simp only [Act.put, List.setIfInBounds_toArray, List.set_cons_zero, List.set_cons_succ]
  refine Held3.Ways.plain (i := 38) (oi := ?o46) ?v46 ?hi46 ?hs46 ?hf46 ?hr46 ?hQ46 ?hy46 (fun _ _ => id) ?rest46
  case hi46 => exact rfl
  case hs46 => kernel_rfl
  case hf46 => kernel_rfl
  case hr46 => kernel_rfl
  case hQ46 => exact fun _ _ _ h => h
  case hy46 =>
    refine .inl ⟨by rfl, fun W _ => ?_⟩
    go_simp
    try with_reducible rfl
  try simp only [Act.put, List.setIfInBounds_toArray, List.set_cons_zero, List.set_cons_succ]
  refine Held3.Ways.plain (i := 39) (oi := ?o47) ?v47 ?hi47 ?hs47 ?hf47 ?hr47 ?hQ47 ?hy47 (fun _ _ => id) ?rest47
  case hi47 => exact rfl
  case hs47 => kernel_rfl
  case hf47 => kernel_rfl
  case hr47 => kernel_rfl
  case hQ47 => exact fun _ _ _ h => h
  case hy47 =>
    refine .inl ⟨by rfl, fun W _ => ?_⟩
    go_simp
    try with_reducible rfl
  try simp only [Act.put, List.setIfInBounds_toArray, List.set_cons_zero, List.set_cons_succ]
  refine Held3.Ways.take (i := 40) (oi := ?o48) (fun W : World => W.heap = E.heap) (fun _ => true) ?v48 ?hi48 ?hs48 ?hf48 ?hlw48 ?hr48 ?hQ48 rfl ?hy48 (fun _ _ _ h _ => h) (fun _ _ => id) ?rest48
  case hi48 => exact rfl
  case hs48 => kernel_rfl
  case hf48 => kernel_rfl
  case hlw48 => kernel_rfl
  case hr48 => kernel_rfl
  case hQ48 => exact fun _ _ _ h => h
  case hy48 =>
    refine .inl ⟨by rfl, fun W hW => ?_⟩
    obtain ⟨t0, t1⟩ := row2c (show W.heap[w.heap.size]? = _ by rw [hW, hEh]; exact HT6.out)
    obtain ⟨a0, a1, a2, a3, a4, a5, a6, a7⟩ := row7l_facts (show W.heap[A]? = _ by rw [hW, hEh]; exact HA.out)
    obtain ⟨o0, o1, o2, o3⟩ := row4l_facts (show W.heap[go]? = _ by rw [hW, hEh]; exact HGO.out)
    go_simp
    try with_reducible rfl
  try simp only [Act.put, List.setIfInBounds_toArray, List.set_cons_zero, List.set_cons_succ]
  refine Held3.Ways.plain (i := 41) (oi := ?o49) ?v49 ?hi49 ?hs49 ?hf49 ?hr49 ?hQ49 ?hy49 (fun _ _ => id) ?rest49
  case hi49 => exact rfl
  case hs49 => kernel_rfl
  case hf49 => kernel_rfl
  case hr49 => kernel_rfl
  case hQ49 => exact fun _ _ _ h => h
  case hy49 =>
    refine .inl ⟨by rfl, fun W _ => ?_⟩
    go_simp
    try with_reducible rfl
  try simp only [Act.put, List.setIfInBounds_toArray, List.set_cons_zero, List.set_cons_succ]
  refine Held3.Ways.plain (i := 42) (oi := ?o50) ?v50 ?hi50 ?hs50 ?hf50 ?hr50 ?hQ50 ?hy50 (fun _ _ => id) ?rest50
  case hi50 => exact rfl
  case hs50 => kernel_rfl
  case hf50 => kernel_rfl
  case hr50 => kernel_rfl
  case hQ50 => exact fun _ _ _ h => h
  case hy50 =>
    refine .inl ⟨by rfl, fun W _ => ?_⟩
    go_simp
    try with_reducible rfl
  try simp only [Act.put, List.setIfInBounds_toArray, List.set_cons_zero, List.set_cons_succ]
  refine Held3.Ways.plain (i := 43) (oi := ?o51) ?v51 ?hi51 ?hs51 ?hf51 ?hr51 ?hQ51 ?hy51 (fun _ _ => id) ?rest51
  case hi51 => exact rfl
  case hs51 => kernel_rfl
  case hf51 => kernel_rfl
  case hr51 => kernel_rfl
  case hQ51 => exact fun _ _ _ h => h
  case hy51 =>
    refine .inl ⟨by rfl, fun W _ => ?_⟩
    go_simp
    try with_reducible rfl
  try simp only [Act.put, List.setIfInBounds_toArray, List.set_cons_zero, List.set_cons_succ]
  refine Held3.Ways.done (by kernel_rfl) ?_ _
  go_wp2_with fail
  go_ret
  exact ⟨rfl, HEF.out⟩
end Go.Proofs.Ythkacajlbenflaa.HistA
