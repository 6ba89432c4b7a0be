/- Sess: Take, where the call is answered at once or waits. -/
import Derived.Test.YtffjkdeggkppnaaSessC
set_option linter.unusedVariables false
set_option linter.unusedSimpArgs false
set_option linter.unusedSectionVars false
namespace Go.Proofs.Ytffjkdeggkppnaa.Sess
open Go.RowKit Go.WideShapes Go.Deep Go.Proofs.Ytffjkdeggkppnaa.Mem Go.Proofs.Ytffjkdeggkppnaa.Maps Go.Proofs.Ytffjkdeggkppnaa.Tid Go.Proofs.Ytffjkdeggkppnaa.KeyA
variable {B gt ba bo : Nat} {w : World} {ss : List (Int × (Nat × One))} {of : List ((Int × Int) × Int)}
theorem results_tmp_row_row {P : Program} {fn : Func} {t p u : Tmp} {ty tz : TypeId} (h : fn.results = #[.tmp t, .cell p ty, .cell u tz]) (tmps : Array Value) (w : World) {g g2 : Nat} {t1 t2 : TypeId} {cs cs2 : Array Value} {fr fr2 : Nat × Nat} {d d2 : TypeDesc}
    (hg : w.heap[g]? = some (.cells cs t1 fr)) (hg2 : w.heap[g2]? = some (.cells cs2 t2 fr2)) (hp : tmps.getD p undef = .pointer (some ⟨g, 0, none⟩)) (hp2 : tmps.getD u undef = .pointer (some ⟨g2, 0, none⟩))
    (hu : P.underlying ty = some d) (hd : (match d with | .struct _ | .array _ _ => true | _ => false) = true) (hi : (P.info? ty).map (·.size) = some cs.size)
    (hu2 : P.underlying tz = some d2) (hd2 : (match d2 with | .struct _ | .array _ _ => true | _ => false) = true) (hi2 : (P.info? tz).map (·.size) = some cs2.size) :
    (results fn tmps).run P w = .ok (.tuple #[tmps.getD t undef, .agg cs, .agg cs2]) w := by
  have hp' : tmps[p]?.getD undef = .pointer (some ⟨g, 0, none⟩) := by simpa using hp
  have hp2' : tmps[u]?.getD undef = .pointer (some ⟨g2, 0, none⟩) := by simpa using hp2
  simp [results, h, hp', hp2', asAddr, run_loadVar_row w g t1 ty cs fr d hg hu hd hi, run_loadVar_row w g2 t2 tz cs2 fr2 d2 hg2 hu2 hd2 hi2, Sem.run_bind, Result.andThen]
theorem sets_ne : ∀ (l : List (Nat × Value)) (W : World) {g k : Nat}, k ≠ g → (sets W g l).heap[k]? = W.heap[k]?
  | [], _, _, _, _ => rfl
  | p :: l, W, g, k, hk => (sets_ne l (W.setCell ⟨g, p.1, none⟩ p.2) hk).trans (Below.heap_setCell W ⟨g, p.1, none⟩ p.2 k hk)
theorem sets_below : ∀ (l : List (Nat × Value)) {W a : World} {B g : Nat}, Below B a W → B ≤ g → Below B a (sets W g l)
  | [], _, _, _, _, h, _ => h
  | p :: l, W, a, B, g, h, hg => sets_below l (h.setCell (p := ⟨g, p.1, none⟩) hg p.2) hg
def tidV (t : Int × Int) : Value := .agg #[.int .u64 t.1, .int .i64 t.2]
def tidR (t : Int × Int) : Obj := .cells #[.int .u64 t.1, .int .i64 t.2] 25 (0, 0)
theorem tid_copied {X : World} {g : Nat} {a b : Int × Int} (h : X.heap[g]? = some (tidR a)) : (sets X g [(0, .int .u64 b.1), (1, .int .i64 b.2)]).heap[g]? = some (tidR b) := by
  unfold tidR at h ⊢
  rw [sets_row _ X h]
  simp
theorem tid_cells {w : World} {g : Nat} {t : Int × Int} (h : w.heap[g]? = some (tidR t)) : w.cell? ⟨g, 0, none⟩ = some (.int .u64 t.1) ∧ w.cell? ⟨g, 1, none⟩ = some (.int .i64 t.2) ∧ ∀ j, w.frozen? ⟨g, j, none⟩ = false := ⟨cell_at h rfl, cell_at h rfl, cell_free h⟩
def badA (c : Cal) : Ans := ⟨c.sess, c.req, 17, ⟨#[]⟩, false, (0, 0)⟩
/-- Where Take's own variables lie: the call, the results, the answer to what can't be. -/
structure Frm (w W : World) (c : Cal) : Prop where
  below : Below w.heap.size w W
  call : W.heap[w.heap.size]? = some (calR c)
  ans : W.heap[w.heap.size + 1]? = some (ansR zeroA)
  tid : W.heap[w.heap.size + 1 + 1]? = some (tidR (0, 0))
  bad : W.heap[w.heap.size + 1 + 1 + 1]? = some (ansR (badA c))
  size : w.heap.size + 4 ≤ W.heap.size
theorem frm_new (w : World) (c : Cal) : Frm w ((((w.alloc (calR c)).alloc (ansR zeroA)).alloc (tidR (0, 0))).alloc (ansR (badA c))) c := by
  have s1 : (w.alloc (calR c)).heap.size = w.heap.size + 1 := by simp
  have s2 : ((w.alloc (calR c)).alloc (ansR zeroA)).heap.size = w.heap.size + 1 + 1 := by simp
  have s3 : (((w.alloc (calR c)).alloc (ansR zeroA)).alloc (tidR (0, 0))).heap.size = w.heap.size + 1 + 1 + 1 := by simp
  refine ⟨((((Below.refl _ _).alloc (Nat.le_refl _) _).alloc (by omega) _).alloc (by omega) _).alloc (by omega) _, ?_, ?_, ?_, ?_, by simp⟩
  · rw [Below.heap_alloc _ _ _ (by omega), Below.heap_alloc _ _ _ (by omega), Below.heap_alloc _ _ _ (by omega)]; exact heap_alloc_new w _
  · rw [Below.heap_alloc _ _ _ (by omega), Below.heap_alloc _ _ _ (by omega)]
    have := heap_alloc_new (w.alloc (calR c)) (ansR zeroA)
    rwa [s1] at this
  · rw [Below.heap_alloc _ _ _ (by omega)]
    have := heap_alloc_new ((w.alloc (calR c)).alloc (ansR zeroA)) (tidR (0, 0))
    rwa [s2] at this
  · have := heap_alloc_new (((w.alloc (calR c)).alloc (ansR zeroA)).alloc (tidR (0, 0))) (ansR (badA c))
    rwa [s3] at this
theorem Frm.drewN {W : World} {c : Cal} (h : Frm w W c) (n : Nat) : Frm w (W.drewN n) c := ⟨below_drewN h.below n, h.call, h.ans, h.tid, h.bad, h.size⟩
/-- The results' cells, laid. -/
theorem Frm.out {W : World} {c : Cal} (h : Frm w W c) (a : Ans) (t : Int × Int) : ∃ V, V = (((((((((W.setCell ⟨w.heap.size + 1, 0, none⟩ (.int .i64 a.sess)).setCell ⟨w.heap.size + 1, 1, none⟩ (.int .i64 a.req)).setCell ⟨w.heap.size + 1, 2, none⟩ (.int .i64 a.code)).setCell ⟨w.heap.size + 1, 3, none⟩ (.string a.val)).setCell ⟨w.heap.size + 1, 4, none⟩ (.bool a.has)).setCell ⟨w.heap.size + 1, 5, none⟩ (.int .u64 a.tid.1)).setCell ⟨w.heap.size + 1, 6, none⟩ (.int .i64 a.tid.2)).setCell ⟨w.heap.size + 1 + 1, 0, none⟩ (.int .u64 t.1)).setCell ⟨w.heap.size + 1 + 1, 1, none⟩ (.int .i64 t.2)) ∧
    V.heap[w.heap.size + 1]? = some (ansR a) ∧ V.heap[w.heap.size + 1 + 1]? = some (tidR t) ∧ Below w.heap.size w V := by
  refine ⟨sets (sets W (w.heap.size + 1) [(0, .int .i64 a.sess), (1, .int .i64 a.req), (2, .int .i64 a.code), (3, .string a.val), (4, .bool a.has), (5, .int .u64 a.tid.1), (6, .int .i64 a.tid.2)]) (w.heap.size + 1 + 1) [(0, .int .u64 t.1), (1, .int .i64 t.2)], rfl, ?_, ?_, ?_⟩
  · rw [sets_ne _ _ (by omega)]
    exact ans_copied h.ans
  · exact tid_copied ((sets_ne _ _ (by omega)).trans h.tid)
  · exact sets_below _ (sets_below _ h.below (by omega)) (by omega)
theorem Frm.badS {W V : World} {c : Cal} (h : Frm w W c) (hf : Fr (fun k => k = w.heap.size + 1 ∨ k = w.heap.size + 1 + 1) W V) : V.cell? ⟨w.heap.size + 1 + 1 + 1, 0, none⟩ = some (.int .i64 c.sess) ∧ V.cell? ⟨w.heap.size + 1 + 1 + 1, 1, none⟩ = some (.int .i64 c.req) ∧ V.cell? ⟨w.heap.size + 1 + 1 + 1, 2, none⟩ = some (.int .i64 17) ∧ V.cell? ⟨w.heap.size + 1 + 1 + 1, 3, none⟩ = some (.string ⟨#[]⟩) ∧ V.cell? ⟨w.heap.size + 1 + 1 + 1, 4, none⟩ = some (.bool false) ∧ V.cell? ⟨w.heap.size + 1 + 1 + 1, 5, none⟩ = some (.int .u64 0) ∧ V.cell? ⟨w.heap.size + 1 + 1 + 1, 6, none⟩ = some (.int .i64 0) := by
  obtain ⟨a0, a1, a2, a3, a4, a5, a6, _⟩ := ans_cells (hf.blk h.bad (by omega))
  exact ⟨a0, a1, a2, a3, a4, a5, a6⟩
theorem fr_at1 {b W : World} {g j : Nat} {v : Value} (h : Fr (fun k => k = g + 1 ∨ k = g + 1 + 1) b W) : Fr (fun k => k = g + 1 ∨ k = g + 1 + 1) b (W.setCell ⟨g + 1, j, none⟩ v) := h.setCell (.inl (.inl rfl)) v
theorem fr_at2 {b W : World} {g j : Nat} {v : Value} (h : Fr (fun k => k = g + 1 ∨ k = g + 1 + 1) b W) : Fr (fun k => k = g + 1 ∨ k = g + 1 + 1) b (W.setCell ⟨g + 1 + 1, j, none⟩ v) := h.setCell (.inl (.inr rfl)) v
set_option maxHeartbeats 1000000 in
set_option maxRecDepth 100000 in
theorem take_neg (c : Cal) (hc : c.sess < 0) :
    Calls Try.prog 9 #[.pointer (some ⟨gt, 0, none⟩), calV c] w fun e w' => e = .returned (.tuple #[.int .i64 1, ansV (badA c), tidV (0, 0)]) ∧ Below w.heap.size w w' := by
  have hfr := frm_new w c
  obtain ⟨X, hX⟩ : ∃ X, X = (((w.alloc (calR c)).alloc (ansR zeroA)).alloc (tidR (0, 0))).alloc (ansR (badA c)) := ⟨_, rfl⟩
  rw [← hX] at hfr
  obtain ⟨cs, cr, ck, ckey, cval⟩ := c
  have HF := Lib.hid hfr
  unfold calR ansR tidR zeroA badA at hX
  dsimp only at hX hc
  have HX := Lib.hid hX
  clear hX hfr
  unfold calV
  go_enter Try.func9, Try.ntmps9
  go_upto_region 2 with fail
  rw [← HX.out]
  clear HX
  obtain ⟨f0, f1, f2, f3, f4⟩ := cal_cells HF.out.call
  go_upto_region 3 with fail
  obtain ⟨a0, a1, a2, a3, a4, a5, a6⟩ := HF.out.badS (Fr.refl _ _)
  obtain ⟨z0, z1, z2, z3, z4, z5, z6, zf⟩ := ans_cells HF.out.ans
  obtain ⟨t0, t1, tf⟩ := tid_cells HF.out.tid
  have HS : Hid (∀ V, Fr (fun k => k = w.heap.size + 1 ∨ k = w.heap.size + 1 + 1) X V → _) := fun V hf => HF.out.badS hf
  dsimp only at HS a0 a1
  clear f0 f1 f2 f3 f4
  go_region_held3 (fun V => V.cell? ⟨w.heap.size + 1 + 1 + 1, 0, none⟩ = some (.int .i64 cs) ∧ V.cell? ⟨w.heap.size + 1 + 1 + 1, 1, none⟩ = some (.int .i64 cr) ∧ V.cell? ⟨w.heap.size + 1 + 1 + 1, 2, none⟩ = some (.int .i64 17) ∧ V.cell? ⟨w.heap.size + 1 + 1 + 1, 3, none⟩ = some (.string ⟨#[]⟩) ∧ V.cell? ⟨w.heap.size + 1 + 1 + 1, 4, none⟩ = some (.bool false) ∧ V.cell? ⟨w.heap.size + 1 + 1 + 1, 5, none⟩ = some (.int .u64 0) ∧ V.cell? ⟨w.heap.size + 1 + 1 + 1, 6, none⟩ = some (.int .i64 0))
    ((refine HS.out _ ?_; repeat (first | with_reducible exact Fr.refl _ _ | with_reducible refine Fr.drew ?_ | with_reducible refine fr_at1 ?_ | with_reducible refine fr_at2 ?_)))
    (fail)
  obtain ⟨V, hV, hVa, hVt, hVb⟩ := HF.out.out (badA ⟨cs, cr, ck, ckey, cval⟩) (0, 0)
  dsimp only [badA] at hV
  rw [← hV]
  clear hV
  rename_i hheld
  clear hheld
  go_wp2_with fail
  refine bodyPost_ret (results_tmp_row_row rfl _ V.drew hVa hVt rfl rfl Try.underlying34 rfl rfl Try.underlying25 rfl rfl) rfl ?_
  exact ⟨rfl, hVb.drew⟩
#print axioms take_neg
end Go.Proofs.Ytffjkdeggkppnaa.Sess
