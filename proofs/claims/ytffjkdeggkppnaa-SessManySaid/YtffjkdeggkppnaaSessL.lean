/- Sess: Len; a table that is nil. -/
import Derived.Test.YtffjkdeggkppnaaSessJ
set_option linter.unusedVariables false
set_option linter.unusedSimpArgs false
set_option linter.unusedSectionVars false
namespace Go.Proofs.Ytffjkdeggkppnaa.Sess
open Go.RowKit Go.WideShapes Go.Deep Go.Proofs.Ytffjkdeggkppnaa.Mem Go.Proofs.Ytffjkdeggkppnaa.Maps Go.Proofs.Ytffjkdeggkppnaa.Tid Go.Proofs.Ytffjkdeggkppnaa.KeyA
theorem len_any {B gt ba bo : Nat} {w : World} {ss : List (Int × (Nat × One))} {of : List ((Int × Int) × Int)} (h : Tab w B gt ba bo ss of) : Calls Try.prog 16 #[.pointer (some ⟨gt, 0, none⟩)] w fun e w' => e = .returned (.int .i64 ss.length) ∧ w' = w := by
  obtain ⟨t0, t1⟩ := tab_cells h
  have hl := run_lens h
  clear h
  go_enter Try.func16, Try.ntmps16
  go_wp2_with fail
  go_ret
  exact ⟨rfl, rfl⟩
theorem len_nil (w : World) : Calls Try.prog 16 #[.pointer none] w fun e w' => e = .returned (.int .i64 0) ∧ w' = w := by
  go_enter Try.func16, Try.ntmps16
  go_wp2_with fail
  go_ret
  exact ⟨rfl, rfl⟩
theorem busy_nil (w : World) : Calls Try.prog 15 #[.pointer none] w fun e w' => e = .returned (.slice none 0 0) ∧ w' = w := by
  go_enter Try.func15, Try.ntmps15
  go_wp2_with fail
  go_ret
  exact ⟨rfl, rfl⟩
set_option maxHeartbeats 1000000 in
set_option maxRecDepth 100000 in
theorem take_nil (w : World) (c : Cal) :
    Calls Try.prog 9 #[.pointer none, calV c] w fun e w' => e = .returned (.tuple #[.int .i64 1, ansV (badA c), tidV (0, 0)]) ∧ Below w.heap.size w w' := by
  have hfr := frm_new w c
  obtain ⟨X, hX⟩ : ∃ X, X = (((w.alloc (calR c)).alloc (ansR zeroA)).alloc (tidR (0, 0))).alloc (ansR (badA c)) := ⟨_, rfl⟩
  rw [← hX] at hfr
  obtain ⟨cs, cr, ck, ckey, cval⟩ := c
  have HF := Lib.hid hfr
  unfold calR ansR tidR zeroA badA at hX
  dsimp only at hX
  have HX := Lib.hid hX
  clear hX hfr
  unfold calV
  go_enter Try.func9, Try.ntmps9
  go_upto_region 2 with fail
  rw [← HX.out]
  clear HX
  obtain ⟨f0, f1, f2, f3, f4⟩ := cal_cells HF.out.call
  go_upto_region 3 with fail
  obtain ⟨a0, a1, a2, a3, a4, a5, a6⟩ := HF.out.badS (Fr.refl _ _)
  obtain ⟨z0, z1, z2, z3, z4, z5, z6, zf⟩ := ans_cells HF.out.ans
  obtain ⟨t0, t1, tf⟩ := tid_cells HF.out.tid
  have HS : Hid (∀ V, Fr (fun k => k = w.heap.size + 1 ∨ k = w.heap.size + 1 + 1) X V → _) := fun V hf => HF.out.badS hf
  dsimp only at HS a0 a1
  clear f0 f1 f2 f3 f4
  go_region_held3 (fun V => V.cell? ⟨w.heap.size + 1 + 1 + 1, 0, none⟩ = some (.int .i64 cs) ∧ V.cell? ⟨w.heap.size + 1 + 1 + 1, 1, none⟩ = some (.int .i64 cr) ∧ V.cell? ⟨w.heap.size + 1 + 1 + 1, 2, none⟩ = some (.int .i64 17) ∧ V.cell? ⟨w.heap.size + 1 + 1 + 1, 3, none⟩ = some (.string ⟨#[]⟩) ∧ V.cell? ⟨w.heap.size + 1 + 1 + 1, 4, none⟩ = some (.bool false) ∧ V.cell? ⟨w.heap.size + 1 + 1 + 1, 5, none⟩ = some (.int .u64 0) ∧ V.cell? ⟨w.heap.size + 1 + 1 + 1, 6, none⟩ = some (.int .i64 0))
    ((refine HS.out _ ?_; repeat (first | with_reducible exact Fr.refl _ _ | with_reducible refine Fr.drew ?_ | with_reducible refine fr_at1 ?_ | with_reducible refine fr_at2 ?_)))
    (fail)
  obtain ⟨V, hV, hVa, hVt, hVb⟩ := HF.out.out (badA ⟨cs, cr, ck, ckey, cval⟩) (0, 0)
  dsimp only [badA] at hV
  rw [← hV]
  clear hV
  rename_i hheld
  clear hheld
  go_wp2_with fail
  refine bodyPost_ret (results_tmp_row_row rfl _ V.drew hVa hVt rfl rfl Try.underlying34 rfl rfl Try.underlying25 rfl rfl) rfl ?_
  exact ⟨rfl, hVb.drew⟩
set_option maxHeartbeats 1000000 in
set_option maxRecDepth 100000 in
theorem fail_nil (w : World) (n z : Int) : Calls Try.prog 11 #[.pointer none, .int .i64 n, .int .i64 z] w fun e w' => e = .returned (.tuple #[ansV zeroA, .bool false]) ∧ Below w.heap.size w w' := by
  obtain ⟨X, hX⟩ : ∃ X, X = w.alloc (ansR zeroA) := ⟨_, rfl⟩
  have hxb : Below w.heap.size w X := by rw [hX]; exact (Below.refl _ _).alloc (Nat.le_refl _) _
  have hxa : X.heap[w.heap.size]? = some (ansR zeroA) := by rw [hX]; exact heap_alloc_new w _
  unfold ansR zeroA at hX
  try dsimp only at hX
  have HX := Lib.hid hX
  have HXB := Lib.hid hxb
  have HXA := Lib.hid hxa
  clear hX hxb hxa
  go_enter Try.func11, Try.ntmps11
  go_upto_region 1 with fail
  rw [← HX.out]
  clear HX
  obtain ⟨z0, z1, z2, z3, z4, z5, z6, zf⟩ := ans_cells HXA.out
  obtain ⟨V, hV⟩ : ∃ V, V = sets X (w.heap.size) [(0, .int .i64 zeroA.sess), (1, .int .i64 zeroA.req), (2, .int .i64 zeroA.code), (3, .string zeroA.val), (4, .bool zeroA.has), (5, .int .u64 zeroA.tid.1), (6, .int .i64 zeroA.tid.2)] := ⟨_, rfl⟩
  have hVa : V.heap[w.heap.size]? = some (ansR zeroA) := by rw [hV]; exact ans_copied HXA.out
  have hVb : Below w.heap.size w V := by rw [hV]; exact sets_below _ HXB.out (by omega)
  unfold sets zeroA at hV
  simp only [List.foldl_cons, List.foldl_nil] at hV
  have HV := Lib.hid hV
  clear hV
  go_wp2_with fail
  rw [← HV.out]
  refine bodyPost_ret (Res.results_row_tmp rfl _ V hVa rfl Try.underlying34 rfl rfl) rfl ?_
  exact ⟨rfl, hVb⟩
set_option maxHeartbeats 1000000 in
set_option maxRecDepth 100000 in
theorem open_nil (w : World) (n : Int) (t : Int × Int) : Calls Try.prog 10 #[.pointer none, .int .i64 n, .agg #[.int .u64 t.1, .int .i64 t.2]] w fun e w' => e = .returned (.tuple #[ansV zeroA, .bool false]) ∧ Below w.heap.size w w' := by
  obtain ⟨X, hX⟩ : ∃ X, X = (w.alloc (tidR t)).alloc (ansR zeroA) := ⟨_, rfl⟩
  have hxb : Below w.heap.size w X := by rw [hX]; exact ((Below.refl _ _).alloc (Nat.le_refl _) _).alloc (by simp) _
  have hxa : X.heap[w.heap.size + 1]? = some (ansR zeroA) := by 
    rw [hX]
    have h9 := heap_alloc_new (w.alloc (tidR t)) (ansR zeroA)
    rwa [World.size_alloc] at h9
  unfold tidR ansR zeroA at hX
  try dsimp only at hX
  have HX := Lib.hid hX
  have HXB := Lib.hid hxb
  have HXA := Lib.hid hxa
  clear hX hxb hxa
  go_enter Try.func10, Try.ntmps10
  go_upto_region 1 with fail
  rw [← HX.out]
  clear HX
  obtain ⟨z0, z1, z2, z3, z4, z5, z6, zf⟩ := ans_cells HXA.out
  obtain ⟨V, hV⟩ : ∃ V, V = sets X (w.heap.size + 1) [(0, .int .i64 zeroA.sess), (1, .int .i64 zeroA.req), (2, .int .i64 zeroA.code), (3, .string zeroA.val), (4, .bool zeroA.has), (5, .int .u64 zeroA.tid.1), (6, .int .i64 zeroA.tid.2)] := ⟨_, rfl⟩
  have hVa : V.heap[w.heap.size + 1]? = some (ansR zeroA) := by rw [hV]; exact ans_copied HXA.out
  have hVb : Below w.heap.size w V := by rw [hV]; exact sets_below _ HXB.out (by omega)
  unfold sets zeroA at hV
  simp only [List.foldl_cons, List.foldl_nil] at hV
  have HV := Lib.hid hV
  clear hV
  go_wp2_with fail
  rw [← HV.out]
  refine bodyPost_ret (Res.results_row_tmp rfl _ V hVa rfl Try.underlying34 rfl rfl) rfl ?_
  exact ⟨rfl, hVb⟩
set_option maxHeartbeats 1000000 in
set_option maxRecDepth 100000 in
theorem told_nil (w : World) (t : Int × Int) (z : Int) (v : S) (hs ov : Bool) : Calls Try.prog 12 #[.pointer none, .agg #[.int .u64 t.1, .int .i64 t.2], .int .i64 z, .string v, .bool hs, .bool ov] w fun e w' => e = .returned (.tuple #[ansV zeroA, .bool false]) ∧ Below w.heap.size w w' := by
  obtain ⟨X, hX⟩ : ∃ X, X = (w.alloc (tidR t)).alloc (ansR zeroA) := ⟨_, rfl⟩
  have hxb : Below w.heap.size w X := by rw [hX]; exact ((Below.refl _ _).alloc (Nat.le_refl _) _).alloc (by simp) _
  have hxa : X.heap[w.heap.size + 1]? = some (ansR zeroA) := by 
    rw [hX]
    have h9 := heap_alloc_new (w.alloc (tidR t)) (ansR zeroA)
    rwa [World.size_alloc] at h9
  unfold tidR ansR zeroA at hX
  try dsimp only at hX
  have HX := Lib.hid hX
  have HXB := Lib.hid hxb
  have HXA := Lib.hid hxa
  clear hX hxb hxa
  go_enter Try.func12, Try.ntmps12
  go_upto_region 1 with fail
  rw [← HX.out]
  clear HX
  obtain ⟨z0, z1, z2, z3, z4, z5, z6, zf⟩ := ans_cells HXA.out
  obtain ⟨V, hV⟩ : ∃ V, V = sets X (w.heap.size + 1) [(0, .int .i64 zeroA.sess), (1, .int .i64 zeroA.req), (2, .int .i64 zeroA.code), (3, .string zeroA.val), (4, .bool zeroA.has), (5, .int .u64 zeroA.tid.1), (6, .int .i64 zeroA.tid.2)] := ⟨_, rfl⟩
  have hVa : V.heap[w.heap.size + 1]? = some (ansR zeroA) := by rw [hV]; exact ans_copied HXA.out
  have hVb : Below w.heap.size w V := by rw [hV]; exact sets_below _ HXB.out (by omega)
  unfold sets zeroA at hV
  simp only [List.foldl_cons, List.foldl_nil] at hV
  have HV := Lib.hid hV
  clear hV
  go_wp2_with fail
  rw [← HV.out]
  refine bodyPost_ret (Res.results_row_tmp rfl _ V hVa rfl Try.underlying34 rfl rfl) rfl ?_
  exact ⟨rfl, hVb⟩
#print axioms told_nil
end Go.Proofs.Ytffjkdeggkppnaa.Sess
