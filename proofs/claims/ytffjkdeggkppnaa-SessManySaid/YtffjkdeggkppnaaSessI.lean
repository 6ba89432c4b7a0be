/- Sess: Told. -/
import Derived.Test.YtffjkdeggkppnaaSessH
set_option linter.unusedVariables false
set_option linter.unusedSimpArgs false
set_option linter.unusedSectionVars false
namespace Go.Proofs.Ytffjkdeggkppnaa.Sess
open Go.RowKit Go.WideShapes Go.Deep Go.Proofs.Ytffjkdeggkppnaa.Mem Go.Proofs.Ytffjkdeggkppnaa.Maps Go.Proofs.Ytffjkdeggkppnaa.Tid Go.Proofs.Ytffjkdeggkppnaa.KeyA
variable {B gt ba bo : Nat} {w w' w2 : World} {ss : List (Int × (Nat × One))} {of : List ((Int × Int) × Int)}
theorem Kp.mono_ {B' : Nat} (h : Kp B w w') (hB : B' ≤ B) : Kp B' w w' := ⟨h.below.mono hB, h.cells⟩
theorem turned_del {of : List ((Int × Int) × Int)} (h : Tab w B gt ba bo ss of) {t : Int × Int} (ht : IdOk t) : ∃ w4, (∀ ty, (Builtin.delete_ #[52, 25] ty #[.map (some bo), .agg #[.int .u64 t.1, .int .i64 t.2]]).run Try.prog w = .ok (.tuple #[]) w4) ∧ Tab w4 B gt ba bo ss (delM of t) ∧ Kp B w w4 ∧ ∀ p, w4.cell? p = w.cell? p := by
  obtain ⟨w4, hup0, hat4, ht4⟩ := Maps.run_delete (P := Try.prog) (t := 52) (e := 3) (ty := 0) km_tid Try.underlying52 h.fo ht
  unfold encT at hup0
  obtain ⟨h1, h2⟩ := h.turnO ht4 hat4 (fun t' m hm => by
    rw [getM_del] at hm
    split at hm
    · cases hm
    · exact h.into t' m hm)
  exact ⟨w4, fun ty => hup0, h1, h2, ht4.cell⟩
def over (o : One) : One := { o with tid := (0, 0), op := false }
theorem one_over {Y : World} {g : Nat} {o : One} (h : Y.heap[g]? = some (oneR o)) : (sets Y g [(2, .int .u64 0), (3, .int .i64 0), (4, .bool false)]).heap[g]? = some (oneR (over o)) := by
  unfold oneR at h ⊢
  rw [sets_row _ Y h]
  simp [over]
theorem Pr.over {W : World} {ga : Nat} (h : Pr w W ga B gt ba bo ss of) {n : Int} {g : Nat} {o : One} (hq : getM ss n = some (g, o)) : ∃ V, V = ((W.setCell ⟨g, 2, none⟩ (.int .u64 0)).setCell ⟨g, 3, none⟩ (.int .i64 0)).setCell ⟨g, 4, none⟩ (.bool false) ∧ Pr w V ga B gt ba bo (setM ss n (g, over o)) of ∧ Kp B W V := by
  obtain ⟨h1, h2⟩ := h.tab.set (w' := sets W g [(2, .int .u64 0), (3, .int .i64 0), (4, .bool false)]) (o' := Sess.over o) hq (fr_own (fr_own (fr_own (Fr.refl _ _)))) (one_over (h.tab.rows _ _ hq).1)
  exact ⟨_, rfl, h.kept h1 h2, h2⟩
set_option maxHeartbeats 1000000 in
set_option maxRecDepth 100000 in
theorem told_none (h : Tab w B gt ba bo ss of) (t : Int × Int) (hti : IdOk t) (z : Int) (v : S) (hs ov : Bool) (hq : getM of t = none) :
    Calls Try.prog 12 #[.pointer (some ⟨gt, 0, none⟩), .agg #[.int .u64 t.1, .int .i64 t.2], .int .i64 z, .string v, .bool hs, .bool ov] w fun e w' => e = .returned (.tuple #[ansV zeroA, .bool false]) ∧ Below w.heap.size w w' := by
  obtain ⟨hpr, htr⟩ := open_new w h t
  obtain ⟨X, hX⟩ : ∃ X, X = (w.alloc (tidR t)).alloc (ansR zeroA) := ⟨_, rfl⟩
  rw [← hX] at hpr htr
  have hxb : Below w.heap.size w X := by rw [hX]; exact ((Below.refl _ _).alloc (Nat.le_refl _) _).alloc (by simp) _
  unfold tidR at hX
  have hlo := fun N => run_of (hpr.tab.drewN N) hti
  rw [hq] at hlo
  simp only [Option.getD_none, Option.isSome_none] at hlo
  obtain ⟨t0, t1⟩ := tab_cells hpr.tab
  unfold ansR zeroA at hX
  dsimp only at hX
  have HX := Lib.hid hX
  have HP := Lib.hid hpr
  have HXB := Lib.hid hxb
  clear hX hpr hxb
  go_enter Try.func12, Try.ntmps12
  go_upto_region 1 with fail
  rw [← HX.out]
  clear HX
  have HTR := Lib.hid htr
  clear h htr hq
  go_upto_region 3 with fail
  obtain ⟨y0, y1, yf⟩ := tid_cells HTR.out
  go_quiet (fail)
  clear hlo t0 t1 y0 y1 yf
  generalize hW1 : X.drewN nq = W1
  have HP1 : Hid (Pr w W1 (w.heap.size + 1) B gt ba bo ss of) := Lib.hid (hW1 ▸ HP.out.drewN nq)
  have HXB1 : Hid (Below w.heap.size w W1) := Lib.hid (hW1 ▸ below_drewN HXB.out nq)
  have HTR1 : Hid (W1.heap[w.heap.size]? = some (tidR t)) := Lib.hid (hW1 ▸ HTR.out)
  clear HP HXB HTR hW1
  obtain ⟨z0, z1, z2, z3, z4, z5, z6, zf⟩ := ans_cells HP1.out.ans
  obtain ⟨V, hV, hVa, _, _⟩ := HP1.out.out zeroA
  have hVb : Below w.heap.size w V := by rw [hV]; exact sets_below [(0, _), (1, _), (2, _), (3, _), (4, _), (5, _), (6, _)] HXB1.out (by omega)
  dsimp only [zeroA] at hV
  have HV := Lib.hid hV
  clear hV
  go_wp2_with fail
  rw [← HV.out]
  refine bodyPost_ret (Res.results_row_tmp rfl _ V hVa rfl Try.underlying34 rfl rfl) rfl ?_
  exact ⟨rfl, hVb⟩
set_option maxHeartbeats 1000000 in
set_option maxRecDepth 100000 in
theorem told_idle (h : Tab w B gt ba bo ss of) (t : Int × Int) (hti : IdOk t) (z : Int) (v : S) (hs ov : Bool) {n : Int} (hq : getM of t = some n) {g : Nat} {o : One} (hg : getM ss n = some (g, o)) (hb : o.busy = false) :
    Calls Try.prog 12 #[.pointer (some ⟨gt, 0, none⟩), .agg #[.int .u64 t.1, .int .i64 t.2], .int .i64 z, .string v, .bool hs, .bool ov] w fun e w' => e = .returned (.tuple #[ansV zeroA, .bool false]) ∧ Below w.heap.size w w' := by
  obtain ⟨hpr, htr⟩ := open_new w h t
  obtain ⟨X, hX⟩ : ∃ X, X = (w.alloc (tidR t)).alloc (ansR zeroA) := ⟨_, rfl⟩
  rw [← hX] at hpr htr
  have hxb : Below w.heap.size w X := by rw [hX]; exact ((Below.refl _ _).alloc (Nat.le_refl _) _).alloc (by simp) _
  unfold tidR at hX
  have hlo := fun N => run_of (hpr.tab.drewN N) hti
  rw [hq] at hlo
  simp only [Option.getD_some, Option.isSome_some] at hlo
  obtain ⟨t0, t1⟩ := tab_cells hpr.tab
  unfold ansR zeroA at hX
  dsimp only at hX
  have HX := Lib.hid hX
  have HP := Lib.hid hpr
  have HXB := Lib.hid hxb
  clear hX hpr hxb
  go_enter Try.func12, Try.ntmps12
  go_upto_region 1 with fail
  rw [← HX.out]
  clear HX
  have HTR := Lib.hid htr
  have HG := Lib.hid hg
  clear h htr hq hg
  go_upto_region 3 with fail
  obtain ⟨y0, y1, yf⟩ := tid_cells HTR.out
  go_quiet (fail)
  clear hlo t0 t1 y0 y1 yf
  generalize hW1 : X.drewN nq = W1
  have HP1 : Hid (Pr w W1 (w.heap.size + 1) B gt ba bo ss of) := Lib.hid (hW1 ▸ HP.out.drewN nq)
  have HXB1 : Hid (Below w.heap.size w W1) := Lib.hid (hW1 ▸ below_drewN HXB.out nq)
  have HTR1 : Hid (W1.heap[w.heap.size]? = some (tidR t)) := Lib.hid (hW1 ▸ HTR.out)
  clear HP HXB HTR hW1
  have hlook := HP1.out.find HG.out
  obtain ⟨t0, t1⟩ := tab_cells HP1.out.tab
  obtain ⟨o0, o1, o2, o3, o4, _, _, _, _, _, _, _, of_⟩ := one_cells (HP1.out.tab.rows _ _ HG.out).1
  dsimp only at o0 o1 o2 o3 o4 of_
  rw [hb] at o1
  obtain ⟨z0, z1, z2, z3, z4, z5, z6, zf⟩ := ans_cells HP1.out.ans
  obtain ⟨V, hV, hVa, _, _⟩ := HP1.out.out zeroA
  have hVb : Below w.heap.size w V := by rw [hV]; exact sets_below [(0, _), (1, _), (2, _), (3, _), (4, _), (5, _), (6, _)] HXB1.out (by omega)
  dsimp only [zeroA] at hV
  have HV := Lib.hid hV
  clear hV
  go_wp2_with fail
  rw [← HV.out]
  refine bodyPost_ret (Res.results_row_tmp rfl _ V hVa rfl Try.underlying34 rfl rfl) rfl ?_
  exact ⟨rfl, hVb⟩
set_option maxHeartbeats 1000000 in
set_option maxRecDepth 100000 in
theorem told_ok (h : Tab w B gt ba bo ss of) (t : Int × Int) (hti : IdOk t) (z : Int) (v : S) (hs ov : Bool) {n : Int} (hq : getM of t = some n) {g : Nat} {o : One} (hg : getM ss n = some (g, o)) (hb : o.busy = true) (hov : ov = false) :
    Calls Try.prog 12 #[.pointer (some ⟨gt, 0, none⟩), .agg #[.int .u64 t.1, .int .i64 t.2], .int .i64 z, .string v, .bool hs, .bool ov] w fun e w' => e = .returned (.tuple #[ansV (fill ⟨0, 0, z, v, hs, (0, 0)⟩ n o), .bool true]) ∧ Tab w' B gt ba bo (setM ss n (g, done o (fill ⟨0, 0, z, v, hs, (0, 0)⟩ n o))) of ∧ Kp B w w' := by
  obtain ⟨hpr, htr⟩ := open_new w h t
  obtain ⟨X, hX⟩ : ∃ X, X = (w.alloc (tidR t)).alloc (ansR zeroA) := ⟨_, rfl⟩
  rw [← hX] at hpr htr
  have hxb : Below w.heap.size w X := by rw [hX]; exact ((Below.refl _ _).alloc (Nat.le_refl _) _).alloc (by simp) _
  unfold tidR at hX
  have hlo := fun N => run_of (hpr.tab.drewN N) hti
  rw [hq] at hlo
  simp only [Option.getD_some, Option.isSome_some] at hlo
  obtain ⟨t0, t1⟩ := tab_cells hpr.tab
  unfold ansR zeroA at hX
  dsimp only at hX
  have HX := Lib.hid hX
  have HP := Lib.hid hpr
  have HXB := Lib.hid hxb
  clear hX hpr hxb
  go_enter Try.func12, Try.ntmps12
  go_upto_region 1 with fail
  rw [← HX.out]
  clear HX
  subst hov
  have HTR := Lib.hid htr
  have HG := Lib.hid hg
  clear h htr hq hg
  go_upto_region 3 with fail
  obtain ⟨y0, y1, yf⟩ := tid_cells HTR.out
  go_quiet (fail)
  clear hlo t0 t1 y0 y1 yf
  generalize hW1 : X.drewN nq = W1
  have HP1 : Hid (Pr w W1 (w.heap.size + 1) B gt ba bo ss of) := Lib.hid (hW1 ▸ HP.out.drewN nq)
  have HXB1 : Hid (Below w.heap.size w W1) := Lib.hid (hW1 ▸ below_drewN HXB.out nq)
  have HTR1 : Hid (W1.heap[w.heap.size]? = some (tidR t)) := Lib.hid (hW1 ▸ HTR.out)
  clear HP HXB HTR hW1
  have hlook := HP1.out.find HG.out
  obtain ⟨t0, t1⟩ := tab_cells HP1.out.tab
  obtain ⟨o0, o1, o2, o3, o4, _, _, _, _, _, _, _, of_⟩ := one_cells (HP1.out.tab.rows _ _ HG.out).1
  dsimp only at o0 o1 o2 o3 o4 of_
  rw [hb] at o1
  have hn := HP1.out.tab.okey HG.out
  have hsay := say_any HP1.out.tab hn HG.out ⟨0, 0, z, v, hs, (0, 0)⟩
  obtain ⟨a9, ha9⟩ : ∃ a9, a9 = fill ⟨0, 0, z, v, hs, (0, 0)⟩ n o := ⟨_, rfl⟩
  rw [← ha9] at hsay
  have HA9 := Lib.hid ha9
  unfold ansV at hsay
  dsimp only at hsay
  have HSAY := Lib.hid hsay
  clear hsay ha9 hb
  go_wp2_with fail
  refine HSAY.out.mono ?_
  rintro e W7 ⟨rfl, ht7, hk7⟩
  have HP7 := Lib.hid (HP1.out.kept ht7 hk7)
  have HTR7 := Lib.hid (hk7.cells _ _ _ _ HTR1.out (by decide))
  have HG7 : Hid (getM (setM ss n (g, done o a9)) n = some (g, done o a9)) := Lib.hid (getM_set_same _ _ _)
  clear ht7 hk7 HSAY o0 o1 o2 o3 o4 of_ t0 t1 hlook HP1 HXB1 HTR1
  obtain ⟨W8, hW8⟩ : ∃ W8, W8 = W7.alloc (ansR a9) := ⟨_, rfl⟩
  have hb8 : Below W7.heap.size W7 W8 := by rw [hW8]; exact (Below.refl _ _).alloc (Nat.le_refl _) _
  have hr8 : W8.heap[W7.heap.size]? = some (ansR a9) := by rw [hW8]; exact heap_alloc_new W7 _
  have HP8 := Lib.hid (HP7.out.below hb8)
  have HTR8 : Hid (W8.heap[w.heap.size]? = some (tidR t)) := Lib.hid ((hb8.block _ (lt_size HTR7.out)).trans HTR7.out)
  have HR8 := Lib.hid hr8
  unfold ansR at hW8
  have HW8 := Lib.hid hW8
  clear hb8 hr8 hW8 HTR7 HP7
  go_upto_region 7 with fail
  rw [← HW8.out]
  clear HW8
  have HP5 := HP8
  have HR5 := HR8
  obtain ⟨a0, a1, a2, a3, a4, a5, a6, _⟩ := ans_cells HR5.out
  obtain ⟨z0, z1, z2, z3, z4, z5, z6, zf⟩ := ans_cells HP5.out.ans
  obtain ⟨V, hV, hVa, hT, hK⟩ := HP5.out.out a9
  have HV := Lib.hid hV
  clear hV
  go_wp2_with fail
  rw [← HV.out]
  refine bodyPost_ret (Res.results_row_tmp rfl _ V hVa rfl Try.underlying34 rfl rfl) rfl ?_
  rw [← HA9.out]
  exact ⟨rfl, hT, hK⟩
set_option maxHeartbeats 1000000 in
set_option maxRecDepth 100000 in
theorem told_over (h : Tab w B gt ba bo ss of) (t : Int × Int) (hti : IdOk t) (z : Int) (v : S) (hs ov : Bool) {n : Int} (hq : getM of t = some n) {g : Nat} {o : One} (hg : getM ss n = some (g, o)) (hb : o.busy = true) (hov : ov = true) :
    Calls Try.prog 12 #[.pointer (some ⟨gt, 0, none⟩), .agg #[.int .u64 t.1, .int .i64 t.2], .int .i64 z, .string v, .bool hs, .bool ov] w fun e w' => e = .returned (.tuple #[ansV (fill ⟨0, 0, z, v, hs, (0, 0)⟩ n o), .bool true]) ∧ Tab w' B gt ba bo (setM ss n (g, over (done o (fill ⟨0, 0, z, v, hs, (0, 0)⟩ n o)))) (delM of t) ∧ Kp B w w' := by
  obtain ⟨hpr, htr⟩ := open_new w h t
  obtain ⟨X, hX⟩ : ∃ X, X = (w.alloc (tidR t)).alloc (ansR zeroA) := ⟨_, rfl⟩
  rw [← hX] at hpr htr
  have hxb : Below w.heap.size w X := by rw [hX]; exact ((Below.refl _ _).alloc (Nat.le_refl _) _).alloc (by simp) _
  unfold tidR at hX
  have hlo := fun N => run_of (hpr.tab.drewN N) hti
  rw [hq] at hlo
  simp only [Option.getD_some, Option.isSome_some] at hlo
  obtain ⟨t0, t1⟩ := tab_cells hpr.tab
  unfold ansR zeroA at hX
  dsimp only at hX
  have HX := Lib.hid hX
  have HP := Lib.hid hpr
  have HXB := Lib.hid hxb
  clear hX hpr hxb
  go_enter Try.func12, Try.ntmps12
  go_upto_region 1 with fail
  rw [← HX.out]
  clear HX
  subst hov
  have HTR := Lib.hid htr
  have HG := Lib.hid hg
  clear h htr hq hg
  go_upto_region 3 with fail
  obtain ⟨y0, y1, yf⟩ := tid_cells HTR.out
  go_quiet (fail)
  clear hlo t0 t1 y0 y1 yf
  generalize hW1 : X.drewN nq = W1
  have HP1 : Hid (Pr w W1 (w.heap.size + 1) B gt ba bo ss of) := Lib.hid (hW1 ▸ HP.out.drewN nq)
  have HXB1 : Hid (Below w.heap.size w W1) := Lib.hid (hW1 ▸ below_drewN HXB.out nq)
  have HTR1 : Hid (W1.heap[w.heap.size]? = some (tidR t)) := Lib.hid (hW1 ▸ HTR.out)
  clear HP HXB HTR hW1
  have hlook := HP1.out.find HG.out
  obtain ⟨t0, t1⟩ := tab_cells HP1.out.tab
  obtain ⟨o0, o1, o2, o3, o4, _, _, _, _, _, _, _, of_⟩ := one_cells (HP1.out.tab.rows _ _ HG.out).1
  dsimp only at o0 o1 o2 o3 o4 of_
  rw [hb] at o1
  have hn := HP1.out.tab.okey HG.out
  have hsay := say_any HP1.out.tab hn HG.out ⟨0, 0, z, v, hs, (0, 0)⟩
  obtain ⟨a9, ha9⟩ : ∃ a9, a9 = fill ⟨0, 0, z, v, hs, (0, 0)⟩ n o := ⟨_, rfl⟩
  rw [← ha9] at hsay
  have HA9 := Lib.hid ha9
  unfold ansV at hsay
  dsimp only at hsay
  have HSAY := Lib.hid hsay
  clear hsay ha9 hb
  go_wp2_with fail
  refine HSAY.out.mono ?_
  rintro e W7 ⟨rfl, ht7, hk7⟩
  have HP7 := Lib.hid (HP1.out.kept ht7 hk7)
  have HTR7 := Lib.hid (hk7.cells _ _ _ _ HTR1.out (by decide))
  have HG7 : Hid (getM (setM ss n (g, done o a9)) n = some (g, done o a9)) := Lib.hid (getM_set_same _ _ _)
  clear ht7 hk7 HSAY o0 o1 o2 o3 o4 of_ t0 t1 hlook HP1 HXB1 HTR1
  obtain ⟨W8, hW8⟩ : ∃ W8, W8 = W7.alloc (ansR a9) := ⟨_, rfl⟩
  have hb8 : Below W7.heap.size W7 W8 := by rw [hW8]; exact (Below.refl _ _).alloc (Nat.le_refl _) _
  have hr8 : W8.heap[W7.heap.size]? = some (ansR a9) := by rw [hW8]; exact heap_alloc_new W7 _
  have HP8 := Lib.hid (HP7.out.below hb8)
  have HTR8 : Hid (W8.heap[w.heap.size]? = some (tidR t)) := Lib.hid ((hb8.block _ (lt_size HTR7.out)).trans HTR7.out)
  have HR8 := Lib.hid hr8
  unfold ansR at hW8
  have HW8 := Lib.hid hW8
  clear hb8 hr8 hW8 HTR7 HP7
  go_upto_region 7 with fail
  rw [← HW8.out]
  clear HW8
  go_upto_region 8 with fail
  obtain ⟨t0, t1⟩ := tab_cells HP8.out.tab
  obtain ⟨y0, y1, yf⟩ := tid_cells HTR8.out
  obtain ⟨w4, hup, ht4, hk4, hc4⟩ := turned_del (HP8.out.tab.drewN 1) hti
  have HP9 := Lib.hid ((HP8.out.drewN 1).kept ht4 hk4)
  have HR9 : Hid (w4.heap[W7.heap.size]? = some (ansR a9)) := Lib.hid (hk4.cells _ _ _ _ HR8.out (by decide))
  have HS : Hid (∀ V, Fr (fun _ => False) W8 V → V.cell? ⟨gt, 1, none⟩ = some (.map (some bo)) ∧ V.cell? ⟨w.heap.size, 0, none⟩ = some (.int .u64 t.1) ∧ V.cell? ⟨w.heap.size, 1, none⟩ = some (.int .i64 t.2)) := fun V hf => ⟨hf.cell t1 (fun h => h), hf.cell y0 (fun h => h), hf.cell y1 (fun h => h)⟩
  have HS4 : Hid (w4.cell? ⟨gt, 1, none⟩ = some (.map (some bo)) ∧ w4.cell? ⟨w.heap.size, 0, none⟩ = some (.int .u64 t.1) ∧ w4.cell? ⟨w.heap.size, 1, none⟩ = some (.int .i64 t.2)) := Lib.hid ⟨(hc4 _).trans t1, (hc4 _).trans y0, (hc4 _).trans y1⟩
  have hup2 : ∀ ty, (Builtin.delete_ #[52, 25] ty #[.map (some bo), .agg #[.int .u64 t.1, .int .i64 t.2]]).run Try.prog W8.drew = .ok (.tuple #[]) w4 := hup
  clear hup ht4 hk4 hc4
  go_region_held3 (fun V => V.cell? ⟨gt, 1, none⟩ = some (.map (some bo)) ∧ V.cell? ⟨w.heap.size, 0, none⟩ = some (.int .u64 t.1) ∧ V.cell? ⟨w.heap.size, 1, none⟩ = some (.int .i64 t.2))
    ((first | exact HS4.out | (refine HS.out _ ?_; repeat (first | with_reducible exact Fr.refl _ _ | with_reducible refine Fr.drew ?_))))
    (fail)
  rename_i hheld
  clear hheld
  clear HS HS4 t0 t1 y0 y1 yf hup2 HP8 HTR8 HR8
  have hlook := HP9.out.find HG7.out
  obtain ⟨t0, t1⟩ := tab_cells HP9.out.tab
  obtain ⟨o0, o1, o2, o3, o4, _, _, _, _, _, _, _, of_⟩ := one_cells (HP9.out.tab.rows _ _ HG7.out).1
  dsimp only at o0 o1 o2 o3 o4 of_
  obtain ⟨W5, hW5, hp5, hk5⟩ := HP9.out.over HG7.out
  rw [setM_set] at hp5
  have HP5 := Lib.hid hp5
  have HR5 : Hid (W5.heap[W7.heap.size]? = some (ansR a9)) := Lib.hid (hk5.cells _ _ _ _ HR9.out (by decide))
  have HW5 := Lib.hid hW5
  clear hW5 hp5 hk5
  go_upto_region 11 with fail
  rw [← HW5.out]
  clear HW5 hlook t0 t1 o0 o1 o2 o3 o4 of_ HP9 HR9
  obtain ⟨a0, a1, a2, a3, a4, a5, a6, _⟩ := ans_cells HR5.out
  obtain ⟨z0, z1, z2, z3, z4, z5, z6, zf⟩ := ans_cells HP5.out.ans
  obtain ⟨V, hV, hVa, hT, hK⟩ := HP5.out.out a9
  have HV := Lib.hid hV
  clear hV
  go_wp2_with fail
  rw [← HV.out]
  refine bodyPost_ret (Res.results_row_tmp rfl _ V hVa rfl Try.underlying34 rfl rfl) rfl ?_
  rw [← HA9.out]
  exact ⟨rfl, hT, hK⟩
#print axioms told_over
end Go.Proofs.Ytffjkdeggkppnaa.Sess
