/- Sess: say. -/
import Derived.Test.YtffjkdeggkppnaaSessB
set_option linter.unusedVariables false
set_option linter.unusedSimpArgs false
set_option linter.unusedSectionVars false
namespace Go.Proofs.Ytffjkdeggkppnaa.Sess
open Go.RowKit Go.WideShapes Go.Deep Go.Proofs.Ytffjkdeggkppnaa.Mem Go.Proofs.Ytffjkdeggkppnaa.Maps Go.Proofs.Ytffjkdeggkppnaa.Tid Go.Proofs.Ytffjkdeggkppnaa.KeyA
variable {B gt ba bo : Nat} {w : World} {ss : List (Int × (Nat × One))} {of : List ((Int × Int) × Int)}
def zeroA : Ans := ⟨0, 0, 0, ⟨#[]⟩, false, (0, 0)⟩
def fill (a : Ans) (n : Int) (o : One) : Ans := { a with sess := n, req := o.req, tid := o.tid }
def done (o : One) (a : Ans) : One := { o with busy := false, last := a }
/-- Cells of one block, set one behind the other. -/
def sets (W : World) (g : Nat) (l : List (Nat × Value)) : World := l.foldl (fun W p => W.setCell ⟨g, p.1, none⟩ p.2) W
theorem sets_row : ∀ (l : List (Nat × Value)) (W : World) {g : Nat} {cs : Array Value} {t : TypeId}, W.heap[g]? = some (.cells cs t (0, 0)) → (sets W g l).heap[g]? = some (.cells (l.foldl (fun c p => c.setIfInBounds p.1 p.2) cs) t (0, 0))
  | [], _, _, _, _, h => h
  | p :: l, W, g, cs, t, h => sets_row l (W.setCell ⟨g, p.1, none⟩ p.2) (heap_setCell_same W g p.1 cs t p.2 h)
theorem drew_heap (W : World) : W.drew.heap = W.heap := rfl
theorem fr_own {b W : World} {g j : Nat} {v : Value} (h : Fr (fun k => k = g) b W) : Fr (fun k => k = g) b (W.setCell ⟨g, j, none⟩ v) := h.setCell (.inl rfl) v
theorem results_row {P : Program} {fn : Func} {p : Tmp} {ty : TypeId} (h : fn.results = #[.cell p ty]) (tmps : Array Value) (w : World) {g : Nat} {t : TypeId} {cs : Array Value} {fr : Nat × Nat} {d : TypeDesc}
    (hg : w.heap[g]? = some (.cells cs t fr)) (hp : tmps.getD p undef = .pointer (some ⟨g, 0, none⟩))
    (hu : P.underlying ty = some d) (hd : (match d with | .struct _ | .array _ _ => true | _ => false) = true) (hi : (P.info? ty).map (·.size) = some cs.size) :
    (results fn tmps).run P w = .ok (.agg cs) w := results_cell_row h tmps w g t cs fr d hp hg hu hd hi
theorem one_said {Y : World} {g : Nat} {o : One} {a : Ans} (h : Y.heap[g]? = some (oneR o)) :
    (sets Y g [(1, .bool false), (5, .int .i64 a.sess), (6, .int .i64 a.req), (7, .int .i64 a.code), (8, .string a.val), (9, .bool a.has), (10, .int .u64 a.tid.1), (11, .int .i64 a.tid.2)]).heap[g]? = some (oneR (done o a)) := by
  unfold oneR at h ⊢
  rw [sets_row _ Y h]
  simp [done]
theorem ans_filled {X : World} {g : Nat} {n : Int} {o : One} {a : Ans} (h : X.heap[g]? = some (ansR a)) : (sets X g [(0, .int .i64 n), (1, .int .i64 o.req), (5, .int .u64 o.tid.1), (6, .int .i64 o.tid.2)]).heap[g]? = some (ansR (fill a n o)) := by
  unfold ansR at h ⊢
  rw [sets_row _ X h]
  simp [fill]
theorem ans_copied {X : World} {g : Nat} {a b : Ans} (h : X.heap[g]? = some (ansR a)) : (sets X g [(0, .int .i64 b.sess), (1, .int .i64 b.req), (2, .int .i64 b.code), (3, .string b.val), (4, .bool b.has), (5, .int .u64 b.tid.1), (6, .int .i64 b.tid.2)]).heap[g]? = some (ansR b) := by
  unfold ansR at h ⊢
  rw [sets_row _ X h]
  simp
set_option maxHeartbeats 1000000 in
set_option maxRecDepth 100000 in
theorem say_any (h : Tab w B gt ba bo ss of) {n : Int} (hn : OkI n) {g : Nat} {o : One} (hq : getM ss n = some (g, o)) (a : Ans) :
    Calls Try.prog 18 #[.pointer (some ⟨gt, 0, none⟩), .int .i64 n, ansV a] w fun e w' => e = .returned (ansV (fill a n o)) ∧ Tab w' B gt ba bo (setM ss n (g, done o (fill a n o))) of ∧ Kp B w w' := by
  obtain ⟨X, hX⟩ : ∃ X, X = (w.alloc (ansR a)).alloc (ansR zeroA) := ⟨_, rfl⟩
  have hxb : Below w.heap.size w X := by rw [hX]; exact ((Below.refl _ _).alloc (Nat.le_refl _) _).alloc (by simp) _
  have hxa : X.heap[w.heap.size]? = some (ansR a) := by rw [hX, Below.heap_alloc _ _ _ (by simp)]; exact heap_alloc_new w _
  have hxz : X.heap[w.heap.size + 1]? = some (ansR zeroA) := by
    rw [hX]
    have h9 := heap_alloc_new (w.alloc (ansR a)) (ansR zeroA)
    rw [World.size_alloc] at h9
    exact h9
  have hT := h.below hxb
  have hlook := run_sess hT hn
  rw [hq] at hlook
  simp only [Option.map_some] at hlook
  obtain ⟨t0, t1⟩ := tab_cells hT
  have hr := (hT.rows n _ hq).1
  simp only at hr
  have HR := Lib.hid hr
  have HT := Lib.hid hT
  have HQ := Lib.hid hq
  have HXB := Lib.hid hxb
  have HXA := Lib.hid hxa
  have HXZ := Lib.hid hxz
  have HX := Lib.hid hX
  have hgl : g < w.heap.size := lt_size (h.rows n _ hq).1
  obtain ⟨a', ha'⟩ : ∃ a', a' = fill a n o := ⟨_, rfl⟩
  rw [← ha']
  have HA' := Lib.hid ha'
  clear ha'
  obtain ⟨as_, ar, ac, av, ah, at_⟩ := a
  unfold ansV
  unfold ansR zeroA at HX
  dsimp only at HX
  have HH := Lib.hid h
  clear h hX hxb hxa hxz hT hr hq t1
  go_enter Try.func18, Try.ntmps18
  go_upto_region 1 with fail
  rw [← HX.out]
  clear HX
  go_upto_region 2 with fail
  clear hlook t0
  obtain ⟨o0, o1, o2, o3, o4, o5, o6, o7, o8, o9, o10, o11, of_⟩ := one_cells HR.out
  obtain ⟨a0, a1, a2, a3, a4, a5, a6, af⟩ := ans_cells HXA.out
  clear o1 o4 o5 o6 o7 o8 o9 o10 o11
  have HS : Hid (∀ W, Fr (fun k => k = w.heap.size) X W → W.cell? ⟨g, 0, none⟩ = some (.int .i64 o.req) ∧ W.cell? ⟨g, 2, none⟩ = some (.int .u64 o.tid.1) ∧ W.cell? ⟨g, 3, none⟩ = some (.int .i64 o.tid.2)) := fun W hf => by
    have hg : W.heap[g]? = some (oneR o) := hf.blk HR.out (by omega)
    obtain ⟨o0, o1, o2, o3, _⟩ := one_cells hg
    exact ⟨o0, o2, o3⟩
  go_region_held3 (fun W => W.cell? ⟨g, 0, none⟩ = some (.int .i64 o.req) ∧ W.cell? ⟨g, 2, none⟩ = some (.int .u64 o.tid.1) ∧ W.cell? ⟨g, 3, none⟩ = some (.int .i64 o.tid.2))
    ((refine HS.out _ ?_; repeat (first | with_reducible exact Fr.refl _ _ | with_reducible refine Fr.drew ?_ | with_reducible refine fr_own ?_)))
    (fail)
  obtain ⟨Y, hY⟩ : ∃ Y, Y = ((((X.setCell ⟨w.heap.size, 0, none⟩ (.int .i64 n)).setCell ⟨w.heap.size, 1, none⟩ (.int .i64 o.req)).setCell ⟨w.heap.size, 5, none⟩ (.int .u64 o.tid.1)).setCell ⟨w.heap.size, 6, none⟩ (.int .i64 o.tid.2)).drew := ⟨_, rfl⟩
  have HYF : Hid (Fr (fun k => k = w.heap.size) X Y) := Lib.hid (by rw [hY]; exact (fr_own (fr_own (fr_own (fr_own (Fr.refl _ _))))).drew)
  have HYA : Hid (Y.heap[w.heap.size]? = some (ansR a')) := Lib.hid (by
    rw [hY, HA'.out]
    exact ans_filled HXA.out)
  have HYE := Lib.hid hY
  rename_i hheld
  clear hheld
  clear hY o0 o2 o3 of_ a0 a1 a2 a3 a4 a5 a6 af
  rw [← HYE.out]
  clear HYE HS
  go_wp2_with fail
  have HYR : Hid (Y.heap[g]? = some (oneR o)) := Lib.hid (HYF.out.blk HR.out (by omega))
  obtain ⟨o0, o1, o2, o3, o4, o5, o6, o7, o8, o9, o10, o11, of_⟩ := one_cells HYR.out
  obtain ⟨a0, a1, a2, a3, a4, a5, a6, af⟩ := ans_cells HYA.out
  have HS : Hid (∀ W, Fr (fun k => k = g) Y W → W.cell? ⟨w.heap.size, 0, none⟩ = some (.int .i64 a'.sess) ∧ W.cell? ⟨w.heap.size, 1, none⟩ = some (.int .i64 a'.req) ∧ W.cell? ⟨w.heap.size, 2, none⟩ = some (.int .i64 a'.code) ∧ W.cell? ⟨w.heap.size, 3, none⟩ = some (.string a'.val) ∧ W.cell? ⟨w.heap.size, 4, none⟩ = some (.bool a'.has) ∧ W.cell? ⟨w.heap.size, 5, none⟩ = some (.int .u64 a'.tid.1) ∧ W.cell? ⟨w.heap.size, 6, none⟩ = some (.int .i64 a'.tid.2)) := fun W hf => by
    have hg : W.heap[w.heap.size]? = some (ansR a') := hf.blk HYA.out (by omega)
    obtain ⟨a0, a1, a2, a3, a4, a5, a6, _⟩ := ans_cells hg
    exact ⟨a0, a1, a2, a3, a4, a5, a6⟩
  go_region_held3 (fun W => W.cell? ⟨w.heap.size, 0, none⟩ = some (.int .i64 a'.sess) ∧ W.cell? ⟨w.heap.size, 1, none⟩ = some (.int .i64 a'.req) ∧ W.cell? ⟨w.heap.size, 2, none⟩ = some (.int .i64 a'.code) ∧ W.cell? ⟨w.heap.size, 3, none⟩ = some (.string a'.val) ∧ W.cell? ⟨w.heap.size, 4, none⟩ = some (.bool a'.has) ∧ W.cell? ⟨w.heap.size, 5, none⟩ = some (.int .u64 a'.tid.1) ∧ W.cell? ⟨w.heap.size, 6, none⟩ = some (.int .i64 a'.tid.2))
    ((refine HS.out _ ?_; repeat (first | with_reducible exact Fr.refl _ _ | with_reducible refine Fr.drew ?_ | with_reducible refine fr_own ?_)))
    (fail)
  obtain ⟨Z, hZ⟩ : ∃ Z, Z = (sets Y g [(1, .bool false), (5, .int .i64 a'.sess), (6, .int .i64 a'.req), (7, .int .i64 a'.code), (8, .string a'.val), (9, .bool a'.has), (10, .int .u64 a'.tid.1), (11, .int .i64 a'.tid.2)]).drew := ⟨_, rfl⟩
  have HZF : Hid (Fr (fun k => k = g) Y Z) := Lib.hid (by rw [hZ]; exact (fr_own (fr_own (fr_own (fr_own (fr_own (fr_own (fr_own (fr_own (Fr.refl _ _))))))))).drew)
  have HZR : Hid (Z.heap[g]? = some (oneR (done o a'))) := Lib.hid (by
    rw [hZ, drew_heap]
    exact one_said HYR.out)
  unfold sets at hZ
  simp only [List.foldl_cons, List.foldl_nil] at hZ
  have HZE := Lib.hid hZ
  clear hZ o0 o1 o2 o3 o4 o5 o6 o7 o8 o9 o10 o11 of_ a0 a1 a2 a3 a4 a5 a6 af
  rename_i hheld
  clear hheld
  have HZA : Hid (Z.heap[w.heap.size]? = some (ansR a')) := Lib.hid (HZF.out.blk HYA.out (by omega))
  have hyz : Y.heap[w.heap.size + 1]? = some (ansR zeroA) := HYF.out.blk HXZ.out (by omega)
  have HZZ : Hid (Z.heap[w.heap.size + 1]? = some (ansR zeroA)) := Lib.hid (HZF.out.blk hyz (by omega))
  clear hyz
  obtain ⟨a0, a1, a2, a3, a4, a5, a6, _⟩ := ans_cells HZA.out
  obtain ⟨z0, z1, z2, z3, z4, z5, z6, zf⟩ := ans_cells HZZ.out
  rw [← HZE.out]
  clear HZE HS
  go_wp2_with fail
  obtain ⟨V, hV⟩ : ∃ V, V = sets Z (w.heap.size + 1) [(0, .int .i64 a'.sess), (1, .int .i64 a'.req), (2, .int .i64 a'.code), (3, .string a'.val), (4, .bool a'.has), (5, .int .u64 a'.tid.1), (6, .int .i64 a'.tid.2)] := ⟨_, rfl⟩
  have hVR : V.heap[w.heap.size + 1]? = some (ansR a') := by rw [hV]; exact ans_copied HZZ.out
  have hVF : Fr (fun k => k = w.heap.size + 1) Z V := by
    rw [hV]
    exact fr_own (fr_own (fr_own (fr_own (fr_own (fr_own (fr_own (Fr.refl _ _)))))))
  unfold sets at hV
  simp only [List.foldl_cons, List.foldl_nil] at hV
  rw [← hV]
  clear hV
  have hby : Below w.heap.size w Y := HXB.out.trans (HYF.out.below HXB.out.size (fun i _ e => by have : i = w.heap.size := e; omega))
  obtain ⟨hTZ, hKZ⟩ := (HH.out.below hby).set (o' := done o a') HQ.out HZF.out HZR.out
  refine bodyPost_ret (results_row rfl _ _ hVR rfl Try.underlying34 rfl rfl) rfl ?_
  exact ⟨rfl, hTZ.skip hVF HZZ.out (by decide) (by decide), ((Kp.of_below hby HH.out.size).trans hKZ).new hVF (by omega) HH.out.size⟩
#print axioms say_any
end Go.Proofs.Ytffjkdeggkppnaa.Sess
