/- Sess: New, Open, Fail. -/
import Derived.Test.YtffjkdeggkppnaaSessG
set_option linter.unusedVariables false
set_option linter.unusedSimpArgs false
set_option linter.unusedSectionVars false
namespace Go.Proofs.Ytffjkdeggkppnaa.Sess
open Go.RowKit Go.WideShapes Go.Deep Go.Proofs.Ytffjkdeggkppnaa.Mem Go.Proofs.Ytffjkdeggkppnaa.Maps Go.Proofs.Ytffjkdeggkppnaa.Tid Go.Proofs.Ytffjkdeggkppnaa.KeyA
variable {B gt ba bo : Nat} {w w' w2 : World} {ss : List (Int × (Nat × One))} {of : List ((Int × Int) × Int)}
theorem Tab.okey (h : Tab w B gt ba bo ss of) {n : Int} {q : Nat × One} (hq : getM ss n = some q) : OkI n := by
  obtain ⟨_, _, _, _, hok, _, _⟩ := h.fa
  exact hok _ (getM_mem hq)
/-- An answer's variable of the call, the table turned. -/
structure Pr (w W : World) (ga : Nat) (B gt ba bo : Nat) (ss : List (Int × (Nat × One))) (of : List ((Int × Int) × Int)) : Prop where
  kp : Kp B w W
  ans : W.heap[ga]? = some (ansR zeroA)
  lo : w.heap.size ≤ ga
  tab : Tab W B gt ba bo ss of
  size : B ≤ w.heap.size
theorem Pr.below {W : World} {ga : Nat} (h : Pr w W ga B gt ba bo ss of) (hb : Below W.heap.size W w') : Pr w w' ga B gt ba bo ss of :=
  ⟨h.kp.trans (Kp.of_below hb (Nat.le_trans h.size h.kp.below.size)), (hb.block _ (lt_size h.ans)).trans h.ans, h.lo, h.tab.below hb, h.size⟩
theorem Pr.drewN {W : World} {ga : Nat} (h : Pr w W ga B gt ba bo ss of) (n : Nat) : Pr w (W.drewN n) ga B gt ba bo ss of := ⟨h.kp.drewN n, h.ans, h.lo, h.tab.drewN n, h.size⟩
theorem Pr.kept {W : World} {ga : Nat} (h : Pr w W ga B gt ba bo ss of) {ss' : List (Int × (Nat × One))} {of' : List ((Int × Int) × Int)} (ht : Tab w' B gt ba bo ss' of') (hk : Kp B W w') : Pr w w' ga B gt ba bo ss' of' :=
  ⟨h.kp.trans hk, hk.cells _ _ _ _ h.ans (by decide), h.lo, ht, h.size⟩
theorem Pr.out {W : World} {ga : Nat} (h : Pr w W ga B gt ba bo ss of) (a : Ans) : ∃ V, V = ((((((W.setCell ⟨ga, 0, none⟩ (.int .i64 a.sess)).setCell ⟨ga, 1, none⟩ (.int .i64 a.req)).setCell ⟨ga, 2, none⟩ (.int .i64 a.code)).setCell ⟨ga, 3, none⟩ (.string a.val)).setCell ⟨ga, 4, none⟩ (.bool a.has)).setCell ⟨ga, 5, none⟩ (.int .u64 a.tid.1)).setCell ⟨ga, 6, none⟩ (.int .i64 a.tid.2) ∧
    V.heap[ga]? = some (ansR a) ∧ Tab V B gt ba bo ss of ∧ Kp B w V := by
  have hf : Fr (fun k => k = ga) W (sets W ga [(0, .int .i64 a.sess), (1, .int .i64 a.req), (2, .int .i64 a.code), (3, .string a.val), (4, .bool a.has), (5, .int .u64 a.tid.1), (6, .int .i64 a.tid.2)]) :=
    fr_own (fr_own (fr_own (fr_own (fr_own (fr_own (fr_own (Fr.refl _ _)))))))
  exact ⟨_, rfl, ans_copied h.ans, h.tab.skip hf h.ans (by decide) (by decide), h.kp.new hf h.lo h.size⟩
theorem Pr.find {W : World} {ga : Nat} (h : Pr w W ga B gt ba bo ss of) {n : Int} {g : Nat} {o : One} (hq : getM ss n = some (g, o)) : (Instr.lookup 51 (.map (some ba)) (.int .i64 n) false).run Try.prog W = .ok (.pointer (some ⟨g, 0, none⟩)) W := by
  have := run_sess h.tab (h.tab.okey hq)
  rw [hq] at this
  exact this
theorem fail_new (w : World) (h : Tab w B gt ba bo ss of) : Pr w (w.alloc (ansR zeroA)) w.heap.size B gt ba bo ss of :=
  ⟨Kp.of_below ((Below.refl _ _).alloc (Nat.le_refl _) _) h.size, heap_alloc_new w _, Nat.le_refl _, h.alloc _, h.size⟩
theorem open_new (w : World) (h : Tab w B gt ba bo ss of) (t : Int × Int) : Pr w ((w.alloc (tidR t)).alloc (ansR zeroA)) (w.heap.size + 1) B gt ba bo ss of ∧ ((w.alloc (tidR t)).alloc (ansR zeroA)).heap[w.heap.size]? = some (tidR t) := by
  refine ⟨⟨Kp.of_below (((Below.refl _ _).alloc (Nat.le_refl _) _).alloc (by simp) _) h.size, ?_, by omega, (h.alloc _).alloc _, h.size⟩, ?_⟩
  · have := heap_alloc_new (w.alloc (tidR t)) (ansR zeroA)
    rwa [World.size_alloc] at this
  · rw [Below.heap_alloc _ _ _ (by simp)]; exact heap_alloc_new w _
set_option maxHeartbeats 1000000 in
set_option maxRecDepth 100000 in
theorem new_any (w : World) : Calls Try.prog 8 #[] w fun e w' => e = .returned (.pointer (some ⟨w.heap.size + 1 + 1, 0, none⟩)) ∧ Tab w' w.heap.size (w.heap.size + 1 + 1) w.heap.size (w.heap.size + 1) [] [] ∧ Below w.heap.size w w' := by
  have hmm := @run_makeMap Try.prog
  go_enter Try.func8, Try.ntmps8
  go_wp2_with fail
  go_ret
  have s1 : (w.alloc (.map #[] 0)).heap.size = w.heap.size + 1 := by simp
  have s2 : ((w.alloc (.map #[] 0)).alloc (.map #[] 0)).heap.size = w.heap.size + 1 + 1 := by simp
  refine ⟨rfl, ⟨?_, ?_, ?_, ?_, by omega, by omega, by omega, ?_, by omega, ?_⟩, (((Below.refl _ _).alloc (Nat.le_refl _) _).alloc (by omega) _).alloc (by omega) _⟩
  · have := heap_alloc_new ((w.alloc (.map #[] 0)).alloc (.map #[] 0)) (.cells #[.map (some w.heap.size), .map (some (w.heap.size + 1))] 54)
    rwa [s2] at this
  · exact ((MapAt.new w).alloc _).alloc _
  · have := (MapAt.new (enc := encT) (encv := encI) (Ok := IdOk) (w.alloc (.map #[] 0))).alloc (.cells #[.map (some w.heap.size), .map (some (w.heap.size + 1))] 54)
    rwa [s1] at this
  · intro n q h; cases h
  · intro n m q r h; cases h
  · intro t n h; cases h
#print axioms new_any
set_option maxHeartbeats 1000000 in
set_option maxRecDepth 100000 in
theorem fail_none (h : Tab w B gt ba bo ss of) {n : Int} (hn : OkI n) (z : Int) (hq : getM ss n = none) :
    Calls Try.prog 11 #[.pointer (some ⟨gt, 0, none⟩), .int .i64 n, .int .i64 z] w fun e w' => e = .returned (.tuple #[ansV zeroA, .bool false]) ∧ Below w.heap.size w w' := by
  have hpr := fail_new w h
  obtain ⟨X, hX⟩ : ∃ X, X = w.alloc (ansR zeroA) := ⟨_, rfl⟩
  rw [← hX] at hpr
  have hxb : Below w.heap.size w X := by rw [hX]; exact (Below.refl _ _).alloc (Nat.le_refl _) _
  have hlook := run_sess hpr.tab hn
  rw [hq] at hlook
  simp only [Option.map_none] at hlook
  obtain ⟨t0, t1⟩ := tab_cells hpr.tab
  unfold ansR zeroA at hX
  dsimp only at hX
  have HX := Lib.hid hX
  have HP := Lib.hid hpr
  have HXB := Lib.hid hxb
  clear hX hpr hxb
  clear h
  go_enter Try.func11, Try.ntmps11
  go_upto_region 1 with fail
  rw [← HX.out]
  clear HX
  obtain ⟨z0, z1, z2, z3, z4, z5, z6, zf⟩ := ans_cells HP.out.ans
  obtain ⟨V, hV, hVa, _, _⟩ := HP.out.out zeroA
  have hVb : Below w.heap.size w V := by rw [hV]; exact sets_below [(0, _), (1, _), (2, _), (3, _), (4, _), (5, _), (6, _)] HXB.out (by omega)
  dsimp only [zeroA] at hV
  have HV := Lib.hid hV
  clear hV
  go_wp2_with fail
  rw [← HV.out]
  refine bodyPost_ret (Res.results_row_tmp rfl _ V hVa rfl Try.underlying34 rfl rfl) rfl ?_
  exact ⟨rfl, hVb⟩
set_option maxHeartbeats 1000000 in
set_option maxRecDepth 100000 in
theorem fail_idle (h : Tab w B gt ba bo ss of) {n : Int} (hn : OkI n) (z : Int) {g : Nat} {o : One} (hq : getM ss n = some (g, o)) (hb : o.busy = false) :
    Calls Try.prog 11 #[.pointer (some ⟨gt, 0, none⟩), .int .i64 n, .int .i64 z] w fun e w' => e = .returned (.tuple #[ansV zeroA, .bool false]) ∧ Below w.heap.size w w' := by
  have hpr := fail_new w h
  obtain ⟨X, hX⟩ : ∃ X, X = w.alloc (ansR zeroA) := ⟨_, rfl⟩
  rw [← hX] at hpr
  have hxb : Below w.heap.size w X := by rw [hX]; exact (Below.refl _ _).alloc (Nat.le_refl _) _
  have hlook := run_sess hpr.tab hn
  rw [hq] at hlook
  simp only [Option.map_some] at hlook
  obtain ⟨o0, o1, o2, o3, o4, _, _, _, _, _, _, _, of_⟩ := one_cells (hpr.tab.rows _ _ hq).1
  dsimp only at o0 o1 o2 o3 o4 of_
  rw [hb] at o1
  obtain ⟨t0, t1⟩ := tab_cells hpr.tab
  unfold ansR zeroA at hX
  dsimp only at hX
  have HX := Lib.hid hX
  have HP := Lib.hid hpr
  have HXB := Lib.hid hxb
  clear hX hpr hxb
  clear h hb
  go_enter Try.func11, Try.ntmps11
  go_upto_region 1 with fail
  rw [← HX.out]
  clear HX
  obtain ⟨z0, z1, z2, z3, z4, z5, z6, zf⟩ := ans_cells HP.out.ans
  obtain ⟨V, hV, hVa, _, _⟩ := HP.out.out zeroA
  have hVb : Below w.heap.size w V := by rw [hV]; exact sets_below [(0, _), (1, _), (2, _), (3, _), (4, _), (5, _), (6, _)] HXB.out (by omega)
  dsimp only [zeroA] at hV
  have HV := Lib.hid hV
  clear hV
  go_wp2_with fail
  rw [← HV.out]
  refine bodyPost_ret (Res.results_row_tmp rfl _ V hVa rfl Try.underlying34 rfl rfl) rfl ?_
  exact ⟨rfl, hVb⟩
set_option maxHeartbeats 1000000 in
set_option maxRecDepth 100000 in
theorem fail_ok (h : Tab w B gt ba bo ss of) {n : Int} (hn : OkI n) (z : Int) {g : Nat} {o : One} (hq : getM ss n = some (g, o)) (hb : o.busy = true) :
    Calls Try.prog 11 #[.pointer (some ⟨gt, 0, none⟩), .int .i64 n, .int .i64 z] w fun e w' => e = .returned (.tuple #[ansV (fill ⟨0, 0, z, ⟨#[]⟩, false, (0, 0)⟩ n o), .bool true]) ∧ Tab w' B gt ba bo (setM ss n (g, done o (fill ⟨0, 0, z, ⟨#[]⟩, false, (0, 0)⟩ n o))) of ∧ Kp B w w' := by
  have hpr := fail_new w h
  obtain ⟨X, hX⟩ : ∃ X, X = w.alloc (ansR zeroA) := ⟨_, rfl⟩
  rw [← hX] at hpr
  have hxb : Below w.heap.size w X := by rw [hX]; exact (Below.refl _ _).alloc (Nat.le_refl _) _
  have hlook := run_sess hpr.tab hn
  rw [hq] at hlook
  simp only [Option.map_some] at hlook
  obtain ⟨o0, o1, o2, o3, o4, _, _, _, _, _, _, _, of_⟩ := one_cells (hpr.tab.rows _ _ hq).1
  dsimp only at o0 o1 o2 o3 o4 of_
  rw [hb] at o1
  obtain ⟨t0, t1⟩ := tab_cells hpr.tab
  unfold ansR zeroA at hX
  dsimp only at hX
  have HX := Lib.hid hX
  have HP := Lib.hid hpr
  have HXB := Lib.hid hxb
  clear hX hpr hxb
  have hsay := say_any HP.out.tab hn hq ⟨0, 0, z, ⟨#[]⟩, false, (0, 0)⟩
  obtain ⟨a9, ha9⟩ : ∃ a9, a9 = fill ⟨0, 0, z, ⟨#[]⟩, false, (0, 0)⟩ n o := ⟨_, rfl⟩
  rw [← ha9] at hsay ⊢
  unfold ansV at hsay
  dsimp only at hsay
  have HSAY := Lib.hid hsay
  clear hsay ha9
  clear h hb hq
  go_enter Try.func11, Try.ntmps11
  go_upto_region 1 with fail
  rw [← HX.out]
  clear HX
  go_wp2_with fail
  refine HSAY.out.mono ?_
  rintro e W7 ⟨rfl, ht7, hk7⟩
  have HP7 := Lib.hid (HP.out.kept ht7 hk7)
  clear ht7 hk7 HSAY
  obtain ⟨z0, z1, z2, z3, z4, z5, z6, zf⟩ := ans_cells HP7.out.ans
  obtain ⟨V, hV, hVa, hT, hK⟩ := HP7.out.out a9
  have HV := Lib.hid hV
  clear hV
  go_wp2_with fail
  rw [← HV.out]
  refine bodyPost_ret (Res.results_row_tmp rfl _ V hVa rfl Try.underlying34 rfl rfl) rfl ?_
  exact ⟨rfl, hT, hK⟩
set_option maxHeartbeats 1000000 in
set_option maxRecDepth 100000 in
theorem open_none (h : Tab w B gt ba bo ss of) {n : Int} (hn : OkI n) (t : Int × Int) (hq : getM ss n = none) :
    Calls Try.prog 10 #[.pointer (some ⟨gt, 0, none⟩), .int .i64 n, .agg #[.int .u64 t.1, .int .i64 t.2]] w fun e w' => e = .returned (.tuple #[ansV zeroA, .bool false]) ∧ Below w.heap.size w w' := by
  obtain ⟨hpr, htr⟩ := open_new w h t
  obtain ⟨X, hX⟩ : ∃ X, X = (w.alloc (tidR t)).alloc (ansR zeroA) := ⟨_, rfl⟩
  rw [← hX] at hpr htr
  have hxb : Below w.heap.size w X := by rw [hX]; exact ((Below.refl _ _).alloc (Nat.le_refl _) _).alloc (by simp) _
  unfold tidR at hX
  have hlook := run_sess hpr.tab hn
  rw [hq] at hlook
  simp only [Option.map_none] at hlook
  obtain ⟨t0, t1⟩ := tab_cells hpr.tab
  unfold ansR zeroA at hX
  dsimp only at hX
  have HX := Lib.hid hX
  have HP := Lib.hid hpr
  have HXB := Lib.hid hxb
  clear hX hpr hxb
  clear h htr
  go_enter Try.func10, Try.ntmps10
  go_upto_region 1 with fail
  rw [← HX.out]
  clear HX
  obtain ⟨z0, z1, z2, z3, z4, z5, z6, zf⟩ := ans_cells HP.out.ans
  obtain ⟨V, hV, hVa, _, _⟩ := HP.out.out zeroA
  have hVb : Below w.heap.size w V := by rw [hV]; exact sets_below [(0, _), (1, _), (2, _), (3, _), (4, _), (5, _), (6, _)] HXB.out (by omega)
  dsimp only [zeroA] at hV
  have HV := Lib.hid hV
  clear hV
  go_wp2_with fail
  rw [← HV.out]
  refine bodyPost_ret (Res.results_row_tmp rfl _ V hVa rfl Try.underlying34 rfl rfl) rfl ?_
  exact ⟨rfl, hVb⟩
set_option maxHeartbeats 1000000 in
set_option maxRecDepth 100000 in
theorem open_idle (h : Tab w B gt ba bo ss of) {n : Int} (hn : OkI n) (t : Int × Int) {g : Nat} {o : One} (hq : getM ss n = some (g, o)) (hb : o.busy = false) :
    Calls Try.prog 10 #[.pointer (some ⟨gt, 0, none⟩), .int .i64 n, .agg #[.int .u64 t.1, .int .i64 t.2]] w fun e w' => e = .returned (.tuple #[ansV zeroA, .bool false]) ∧ Below w.heap.size w w' := by
  obtain ⟨hpr, htr⟩ := open_new w h t
  obtain ⟨X, hX⟩ : ∃ X, X = (w.alloc (tidR t)).alloc (ansR zeroA) := ⟨_, rfl⟩
  rw [← hX] at hpr htr
  have hxb : Below w.heap.size w X := by rw [hX]; exact ((Below.refl _ _).alloc (Nat.le_refl _) _).alloc (by simp) _
  unfold tidR at hX
  have hlook := run_sess hpr.tab hn
  rw [hq] at hlook
  simp only [Option.map_some] at hlook
  obtain ⟨o0, o1, o2, o3, o4, _, _, _, _, _, _, _, of_⟩ := one_cells (hpr.tab.rows _ _ hq).1
  dsimp only at o0 o1 o2 o3 o4 of_
  rw [hb] at o1
  obtain ⟨t0, t1⟩ := tab_cells hpr.tab
  unfold ansR zeroA at hX
  dsimp only at hX
  have HX := Lib.hid hX
  have HP := Lib.hid hpr
  have HXB := Lib.hid hxb
  clear hX hpr hxb
  clear h hb htr
  go_enter Try.func10, Try.ntmps10
  go_upto_region 1 with fail
  rw [← HX.out]
  clear HX
  obtain ⟨z0, z1, z2, z3, z4, z5, z6, zf⟩ := ans_cells HP.out.ans
  obtain ⟨V, hV, hVa, _, _⟩ := HP.out.out zeroA
  have hVb : Below w.heap.size w V := by rw [hV]; exact sets_below [(0, _), (1, _), (2, _), (3, _), (4, _), (5, _), (6, _)] HXB.out (by omega)
  dsimp only [zeroA] at hV
  have HV := Lib.hid hV
  clear hV
  go_wp2_with fail
  rw [← HV.out]
  refine bodyPost_ret (Res.results_row_tmp rfl _ V hVa rfl Try.underlying34 rfl rfl) rfl ?_
  exact ⟨rfl, hVb⟩
set_option maxHeartbeats 1000000 in
set_option maxRecDepth 100000 in
theorem open_had (h : Tab w B gt ba bo ss of) {n : Int} (hn : OkI n) (t : Int × Int) {g : Nat} {o : One} (hq : getM ss n = some (g, o)) (hb : o.busy = true) (ho : o.op = true) :
    Calls Try.prog 10 #[.pointer (some ⟨gt, 0, none⟩), .int .i64 n, .agg #[.int .u64 t.1, .int .i64 t.2]] w fun e w' => e = .returned (.tuple #[ansV zeroA, .bool false]) ∧ Below w.heap.size w w' := by
  obtain ⟨hpr, htr⟩ := open_new w h t
  obtain ⟨X, hX⟩ : ∃ X, X = (w.alloc (tidR t)).alloc (ansR zeroA) := ⟨_, rfl⟩
  rw [← hX] at hpr htr
  have hxb : Below w.heap.size w X := by rw [hX]; exact ((Below.refl _ _).alloc (Nat.le_refl _) _).alloc (by simp) _
  unfold tidR at hX
  have hlook := run_sess hpr.tab hn
  rw [hq] at hlook
  simp only [Option.map_some] at hlook
  obtain ⟨o0, o1, o2, o3, o4, _, _, _, _, _, _, _, of_⟩ := one_cells (hpr.tab.rows _ _ hq).1
  dsimp only at o0 o1 o2 o3 o4 of_
  rw [hb] at o1
  rw [ho] at o4
  obtain ⟨t0, t1⟩ := tab_cells hpr.tab
  unfold ansR zeroA at hX
  dsimp only at hX
  have HX := Lib.hid hX
  have HP := Lib.hid hpr
  have HXB := Lib.hid hxb
  clear hX hpr hxb
  clear h hb ho htr
  go_enter Try.func10, Try.ntmps10
  go_upto_region 1 with fail
  rw [← HX.out]
  clear HX
  obtain ⟨z0, z1, z2, z3, z4, z5, z6, zf⟩ := ans_cells HP.out.ans
  obtain ⟨V, hV, hVa, _, _⟩ := HP.out.out zeroA
  have hVb : Below w.heap.size w V := by rw [hV]; exact sets_below [(0, _), (1, _), (2, _), (3, _), (4, _), (5, _), (6, _)] HXB.out (by omega)
  dsimp only [zeroA] at hV
  have HV := Lib.hid hV
  clear hV
  go_wp2_with fail
  rw [← HV.out]
  refine bodyPost_ret (Res.results_row_tmp rfl _ V hVa rfl Try.underlying34 rfl rfl) rfl ?_
  exact ⟨rfl, hVb⟩
def opened (o : One) (t : Int × Int) : One := { o with tid := t, op := true }
theorem one_opened {Y : World} {g : Nat} {o : One} {t : Int × Int} (h : Y.heap[g]? = some (oneR o)) : (sets Y g [(2, .int .u64 t.1), (3, .int .i64 t.2), (4, .bool true)]).heap[g]? = some (oneR (opened o t)) := by
  unfold oneR at h ⊢
  rw [sets_row _ Y h]
  simp [opened]
theorem Pr.opened {W : World} {ga : Nat} (h : Pr w W ga B gt ba bo ss of) {n : Int} {g : Nat} {o : One} (hq : getM ss n = some (g, o)) (t : Int × Int) : ∃ V, V = ((W.setCell ⟨g, 2, none⟩ (.int .u64 t.1)).setCell ⟨g, 3, none⟩ (.int .i64 t.2)).setCell ⟨g, 4, none⟩ (.bool true) ∧ Pr w V ga B gt ba bo (setM ss n (g, opened o t)) of ∧ Kp B W V := by
  obtain ⟨h1, h2⟩ := h.tab.set (w' := sets W g [(2, .int .u64 t.1), (3, .int .i64 t.2), (4, .bool true)]) (o' := Sess.opened o t) hq (fr_own (fr_own (fr_own (Fr.refl _ _)))) (one_opened (h.tab.rows _ _ hq).1)
  exact ⟨_, rfl, h.kept h1 h2, h2⟩
set_option maxHeartbeats 1000000 in
set_option maxRecDepth 100000 in
theorem open_ok (h : Tab w B gt ba bo ss of) {n : Int} (hn : OkI n) (t : Int × Int) (hti : IdOk t) {g : Nat} {o : One} (hq : getM ss n = some (g, o)) (hb : o.busy = true) (ho : o.op = false) :
    Calls Try.prog 10 #[.pointer (some ⟨gt, 0, none⟩), .int .i64 n, .agg #[.int .u64 t.1, .int .i64 t.2]] w fun e w' => e = .returned (.tuple #[ansV (fill zeroA n (opened o t)), .bool true]) ∧ Tab w' B gt ba bo (setM ss n (g, done (opened o t) (fill zeroA n (opened o t)))) (setM of t n) ∧ Kp B w w' := by
  obtain ⟨hpr, htr⟩ := open_new w h t
  obtain ⟨X, hX⟩ : ∃ X, X = (w.alloc (tidR t)).alloc (ansR zeroA) := ⟨_, rfl⟩
  rw [← hX] at hpr htr
  have hxb : Below w.heap.size w X := by rw [hX]; exact ((Below.refl _ _).alloc (Nat.le_refl _) _).alloc (by simp) _
  unfold tidR at hX
  have hlook := run_sess hpr.tab hn
  rw [hq] at hlook
  simp only [Option.map_some] at hlook
  obtain ⟨o0, o1, o2, o3, o4, _, _, _, _, _, _, _, of_⟩ := one_cells (hpr.tab.rows _ _ hq).1
  dsimp only at o0 o1 o2 o3 o4 of_
  rw [hb] at o1
  rw [ho] at o4
  obtain ⟨t0, t1⟩ := tab_cells hpr.tab
  unfold ansR zeroA at hX
  dsimp only at hX
  have HX := Lib.hid hX
  have HP := Lib.hid hpr
  have HXB := Lib.hid hxb
  clear hX hpr hxb
  have HTR := Lib.hid htr
  obtain ⟨y0, y1, yf⟩ := tid_cells htr
  have HQ := Lib.hid hq
  clear h hb ho htr hq
  go_enter Try.func10, Try.ntmps10
  go_upto_region 1 with fail
  rw [← HX.out]
  clear HX
  obtain ⟨W5, hW5, hp5, hk5⟩ := HP.out.opened HQ.out t
  have HP5 := Lib.hid hp5
  have HQ5 : Hid (getM (setM ss n (g, opened o t)) n = some (g, opened o t)) := Lib.hid (getM_set_same _ _ _)
  have HTR5 := Lib.hid (hk5.cells _ _ _ _ HTR.out (by decide))
  have HW5 := Lib.hid hW5
  clear hW5 hp5 hk5
  go_upto_region 5 with fail
  rw [← HW5.out]
  clear HW5 hlook o0 o1 o2 o3 o4 of_ t0 t1 y0 y1 yf HP
  obtain ⟨t0, t1⟩ := tab_cells HP5.out.tab
  obtain ⟨y0, y1, yf⟩ := tid_cells HTR5.out
  obtain ⟨w4, hup, hat4, ht4⟩ := Maps.run_update (P := Try.prog) (t := 52) (e := 3) km_tid Try.underlying52 (HP5.out.tab.drewN 1).fo (x := t) hti n
  obtain ⟨h6, hk6⟩ := (HP5.out.tab.drewN 1).turnO ht4 hat4 (fun t' m hm => by
    rw [getM_set] at hm
    split at hm
    · injection hm with hm
      subst hm
      exact ⟨_, HQ5.out⟩
    · exact HP5.out.tab.into t' m hm)
  have HP6 := Lib.hid ((HP5.out.drewN 1).kept h6 hk6)
  unfold encI encT at hup
  have HS : Hid (∀ V, Fr (fun _ => False) W5 V → V.cell? ⟨gt, 1, none⟩ = some (.map (some bo)) ∧ V.cell? ⟨w.heap.size, 0, none⟩ = some (.int .u64 t.1) ∧ V.cell? ⟨w.heap.size, 1, none⟩ = some (.int .i64 t.2)) := fun V hf => ⟨hf.cell t1 (fun h => h), hf.cell y0 (fun h => h), hf.cell y1 (fun h => h)⟩
  have HS4 : Hid (w4.cell? ⟨gt, 1, none⟩ = some (.map (some bo)) ∧ w4.cell? ⟨w.heap.size, 0, none⟩ = some (.int .u64 t.1) ∧ w4.cell? ⟨w.heap.size, 1, none⟩ = some (.int .i64 t.2)) := Lib.hid ⟨(ht4.cell _).trans t1, (ht4.cell _).trans y0, (ht4.cell _).trans y1⟩
  have hup2 : (Instr.mapUpdate 52 (.map (some bo)) (.agg #[.int .u64 t.1, .int .i64 t.2]) (.int .i64 n)).run Try.prog W5.drew = .ok () w4 := hup
  clear hup hat4 ht4 h6 hk6
  go_region_held3 (fun V => V.cell? ⟨gt, 1, none⟩ = some (.map (some bo)) ∧ V.cell? ⟨w.heap.size, 0, none⟩ = some (.int .u64 t.1) ∧ V.cell? ⟨w.heap.size, 1, none⟩ = some (.int .i64 t.2))
    ((first | exact HS4.out | (refine HS.out _ ?_; repeat (first | with_reducible exact Fr.refl _ _ | with_reducible refine Fr.drew ?_))))
    (fail)
  rename_i hheld
  clear hheld
  clear HS HS4 t0 t1 y0 y1 yf hup2
  have hsay := say_any HP6.out.tab hn HQ5.out zeroA
  obtain ⟨a9, ha9⟩ : ∃ a9, a9 = fill zeroA n (opened o t) := ⟨_, rfl⟩
  rw [← ha9] at hsay
  have HA9 := Lib.hid ha9
  unfold ansV zeroA at hsay
  dsimp only at hsay
  have HSAY := Lib.hid hsay
  clear hsay ha9
  go_wp2_with fail
  refine HSAY.out.mono ?_
  rintro e W7 ⟨rfl, ht7, hk7⟩
  have HP7 := Lib.hid (HP6.out.kept ht7 hk7)
  clear ht7 hk7 HSAY
  obtain ⟨z0, z1, z2, z3, z4, z5, z6, zf⟩ := ans_cells HP7.out.ans
  obtain ⟨V, hV, hVa, hT, hK⟩ := HP7.out.out a9
  have HV := Lib.hid hV
  clear hV
  go_wp2_with fail
  rw [← HV.out]
  refine bodyPost_ret (Res.results_row_tmp rfl _ V hVa rfl Try.underlying34 rfl rfl) rfl ?_
  rw [setM_set] at hT
  rw [← HA9.out]
  exact ⟨rfl, hT, hK⟩
#print axioms open_ok
end Go.Proofs.Ytffjkdeggkppnaa.Sess
