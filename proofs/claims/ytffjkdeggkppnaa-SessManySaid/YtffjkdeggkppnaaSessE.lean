/- Sess: Take, where the call is answered at once or waits. -/
import Derived.Test.YtffjkdeggkppnaaSessD
set_option linter.unusedVariables false
set_option linter.unusedSimpArgs false
set_option linter.unusedSectionVars false
namespace Go.Proofs.Ytffjkdeggkppnaa.Sess
open Go.RowKit Go.WideShapes Go.Deep Go.Proofs.Ytffjkdeggkppnaa.Mem Go.Proofs.Ytffjkdeggkppnaa.Maps Go.Proofs.Ytffjkdeggkppnaa.Tid Go.Proofs.Ytffjkdeggkppnaa.KeyA
variable {B gt ba bo : Nat} {w : World} {ss : List (Int × (Nat × One))} {of : List ((Int × Int) × Int)}
structure Pt (w W : World) (c : Cal) (B gt ba bo : Nat) (ss : List (Int × (Nat × One))) (of : List ((Int × Int) × Int)) : Prop where
  frm : Frm w W c
  tab : Tab W B gt ba bo ss of
theorem Pt.drewN {W : World} {c : Cal} (h : Pt w W c B gt ba bo ss of) (n : Nat) : Pt w (W.drewN n) c B gt ba bo ss of := ⟨h.frm.drewN n, h.tab.drewN n⟩
theorem Pt.look {W : World} {c : Cal} (h : Pt w W c B gt ba bo ss of) (hn : OkI c.sess) (n : Nat) : (Instr.lookup 51 (.map (some ba)) (.int .i64 c.sess) false).run Try.prog (W.drewN n) = .ok (.pointer ((getM ss c.sess).map fun q => ⟨q.1, 0, none⟩)) (W.drewN n) := run_sess (h.drewN n).tab hn
theorem Pt.row {W : World} {c : Cal} (h : Pt w W c B gt ba bo ss of) {g : Nat} {o : One} (hq : getM ss c.sess = some (g, o)) : W.heap[g]? = some (oneR o) := (h.tab.rows _ _ hq).1
theorem one_last {w W V : World} {g : Nat} {o : One} (h : W.heap[g]? = some (oneR o)) (hg : g < w.heap.size) (hf : Fr (fun k => k = w.heap.size + 1 ∨ k = w.heap.size + 1 + 1) W V) : V.cell? ⟨g, 5, none⟩ = some (.int .i64 o.last.sess) ∧ V.cell? ⟨g, 6, none⟩ = some (.int .i64 o.last.req) ∧ V.cell? ⟨g, 7, none⟩ = some (.int .i64 o.last.code) ∧ V.cell? ⟨g, 8, none⟩ = some (.string o.last.val) ∧ V.cell? ⟨g, 9, none⟩ = some (.bool o.last.has) ∧ V.cell? ⟨g, 10, none⟩ = some (.int .u64 o.last.tid.1) ∧ V.cell? ⟨g, 11, none⟩ = some (.int .i64 o.last.tid.2) := by
  obtain ⟨_, _, _, _, _, a0, a1, a2, a3, a4, a5, a6, _⟩ := one_cells (hf.blk h (by omega))
  exact ⟨a0, a1, a2, a3, a4, a5, a6⟩
theorem one_tid {w W V : World} {g : Nat} {o : One} (h : W.heap[g]? = some (oneR o)) (hg : g < w.heap.size) (hf : Fr (fun k => k = w.heap.size + 1 ∨ k = w.heap.size + 1 + 1) W V) : V.cell? ⟨g, 2, none⟩ = some (.int .u64 o.tid.1) ∧ V.cell? ⟨g, 3, none⟩ = some (.int .i64 o.tid.2) := by
  obtain ⟨_, _, a0, a1, _⟩ := one_cells (hf.blk h (by omega))
  exact ⟨a0, a1⟩
set_option maxHeartbeats 1000000 in
set_option maxRecDepth 100000 in
theorem take_none_req (h : Tab w B gt ba bo ss of) (c : Cal) (hn : OkI c.sess) (h0 : 0 ≤ c.sess) (hq : getM ss c.sess = none) (hb : c.req ≠ 1) :
    Calls Try.prog 9 #[.pointer (some ⟨gt, 0, none⟩), calV c] w fun e w' => e = .returned (.tuple #[.int .i64 1, ansV (badA c), tidV (0, 0)]) ∧ Below w.heap.size w w' := by
  have hfr := frm_new w c
  obtain ⟨X, hX⟩ : ∃ X, X = (((w.alloc (calR c)).alloc (ansR zeroA)).alloc (tidR (0, 0))).alloc (ansR (badA c)) := ⟨_, rfl⟩
  rw [← hX] at hfr
  have hpt : Pt w X c B gt ba bo ss of := ⟨hfr, h.below hfr.below⟩
  have hlook := hpt.look hn
  rw [hq] at hlook
  simp only [Option.map_none] at hlook
  obtain ⟨cs, cr, ck, ckey, cval⟩ := c
  have HP := Lib.hid hpt
  unfold calR ansR tidR zeroA badA at hX
  dsimp only at hX hlook hn h0
  have HX := Lib.hid hX
  clear hX hfr hpt h
  unfold calV
  go_enter Try.func9, Try.ntmps9
  go_upto_region 2 with fail
  rw [← HX.out]
  clear HX
  obtain ⟨f0, f1, f2, f3, f4⟩ := cal_cells HP.out.frm.call
  obtain ⟨t0, t1⟩ := tab_cells HP.out.tab
  dsimp only at f0 f1 f2 f3 f4
  go_upto_region 4 with fail
  go_quiet (fail)
  generalize hW1 : X.drewN nq = W1
  have HPW1 : Hid (Pt w W1 _ B gt ba bo ss of) := Lib.hid (hW1 ▸ HP.out.drewN nq)
  clear f0 f1 f2 f3 f4 t0 t1 hlook
  obtain ⟨f0, f1, f2, f3, f4⟩ := cal_cells HPW1.out.frm.call
  dsimp only at f0 f1 f2 f3 f4 hb
  have hb1 : (cr == 1) = false := by simp [show ¬ cr = 1 from hb]
  have hb2 : (cr != 1) = true := by simp [show ¬ cr = 1 from hb]
  go_upto_region 6 with fail
  obtain ⟨z0, z1, z2, z3, z4, z5, z6, zf⟩ := ans_cells HPW1.out.frm.ans
  obtain ⟨y0, y1, yf⟩ := tid_cells HPW1.out.frm.tid
  have HS : Hid (∀ V, Fr (fun k => k = w.heap.size + 1 ∨ k = w.heap.size + 1 + 1) W1 V → _) := fun V hf => HPW1.out.frm.badS hf
  try dsimp only at HS
  obtain ⟨s0, s1, s2, s3, s4, s5, s6⟩ := HS.out _ (Fr.refl _ _)
  go_region_held3 (fun V => V.cell? ⟨w.heap.size + 1 + 1 + 1, 0, none⟩ = some (.int .i64 cs) ∧ V.cell? ⟨w.heap.size + 1 + 1 + 1, 1, none⟩ = some (.int .i64 cr) ∧ V.cell? ⟨w.heap.size + 1 + 1 + 1, 2, none⟩ = some (.int .i64 17) ∧ V.cell? ⟨w.heap.size + 1 + 1 + 1, 3, none⟩ = some (.string ⟨#[]⟩) ∧ V.cell? ⟨w.heap.size + 1 + 1 + 1, 4, none⟩ = some (.bool false) ∧ V.cell? ⟨w.heap.size + 1 + 1 + 1, 5, none⟩ = some (.int .u64 0) ∧ V.cell? ⟨w.heap.size + 1 + 1 + 1, 6, none⟩ = some (.int .i64 0))
    ((refine HS.out _ ?_; repeat (first | with_reducible exact Fr.refl _ _ | with_reducible refine Fr.drew ?_ | with_reducible refine fr_at1 ?_ | with_reducible refine fr_at2 ?_)))
    (fail)
  obtain ⟨V, hV, hVa, hVt, hVb⟩ := HPW1.out.frm.out (badA ⟨cs, cr, ck, ckey, cval⟩) (0, 0)
  dsimp only [badA, zeroA] at hV
  rw [← hV]
  clear hV
  rename_i hheld
  clear hheld
  go_wp2_with fail
  refine bodyPost_ret (results_tmp_row_row rfl _ V.drew hVa hVt rfl rfl Try.underlying34 rfl rfl Try.underlying25 rfl rfl) rfl ?_
  exact ⟨rfl, hVb.drew⟩
set_option maxHeartbeats 1000000 in
set_option maxRecDepth 100000 in
theorem take_none_full (h : Tab w B gt ba bo ss of) (c : Cal) (hn : OkI c.sess) (h0 : 0 ≤ c.sess) (hq : getM ss c.sess = none) (hb : c.req = 1) (hl : 100 ≤ ss.length) :
    Calls Try.prog 9 #[.pointer (some ⟨gt, 0, none⟩), calV c] w fun e w' => e = .returned (.tuple #[.int .i64 1, ansV (badA c), tidV (0, 0)]) ∧ Below w.heap.size w w' := by
  have hfr := frm_new w c
  obtain ⟨X, hX⟩ : ∃ X, X = (((w.alloc (calR c)).alloc (ansR zeroA)).alloc (tidR (0, 0))).alloc (ansR (badA c)) := ⟨_, rfl⟩
  rw [← hX] at hfr
  have hpt : Pt w X c B gt ba bo ss of := ⟨hfr, h.below hfr.below⟩
  have hlook := hpt.look hn
  rw [hq] at hlook
  simp only [Option.map_none] at hlook
  obtain ⟨cs, cr, ck, ckey, cval⟩ := c
  have HP := Lib.hid hpt
  unfold calR ansR tidR zeroA badA at hX
  dsimp only at hX hlook hn h0
  have HX := Lib.hid hX
  clear hX hfr hpt h
  unfold calV
  go_enter Try.func9, Try.ntmps9
  go_upto_region 2 with fail
  rw [← HX.out]
  clear HX
  obtain ⟨f0, f1, f2, f3, f4⟩ := cal_cells HP.out.frm.call
  obtain ⟨t0, t1⟩ := tab_cells HP.out.tab
  dsimp only at f0 f1 f2 f3 f4
  go_upto_region 4 with fail
  go_quiet (fail)
  generalize hW1 : X.drewN nq = W1
  have HPW1 : Hid (Pt w W1 _ B gt ba bo ss of) := Lib.hid (hW1 ▸ HP.out.drewN nq)
  clear f0 f1 f2 f3 f4 t0 t1 hlook
  obtain ⟨f0, f1, f2, f3, f4⟩ := cal_cells HPW1.out.frm.call
  dsimp only at f0 f1 f2 f3 f4 hb
  have hb1 : (cr == 1) = true := by simp [show cr = 1 from hb]
  have hb2 : (cr != 1) = false := by simp [show cr = 1 from hb]
  have hl' : (100 : Int) ≤ (ss.length : Int) := by omega
  have HB := Lib.hid hb
  clear hb
  have hlen := run_lens HPW1.out.tab
  obtain ⟨t0, t1⟩ := tab_cells HPW1.out.tab
  go_upto_region 6 with fail
  obtain ⟨z0, z1, z2, z3, z4, z5, z6, zf⟩ := ans_cells HPW1.out.frm.ans
  obtain ⟨y0, y1, yf⟩ := tid_cells HPW1.out.frm.tid
  have HS : Hid (∀ V, Fr (fun k => k = w.heap.size + 1 ∨ k = w.heap.size + 1 + 1) W1 V → _) := fun V hf => HPW1.out.frm.badS hf
  try dsimp only at HS
  obtain ⟨s0, s1, s2, s3, s4, s5, s6⟩ := HS.out _ (Fr.refl _ _)
  go_region_held3 (fun V => V.cell? ⟨w.heap.size + 1 + 1 + 1, 0, none⟩ = some (.int .i64 cs) ∧ V.cell? ⟨w.heap.size + 1 + 1 + 1, 1, none⟩ = some (.int .i64 cr) ∧ V.cell? ⟨w.heap.size + 1 + 1 + 1, 2, none⟩ = some (.int .i64 17) ∧ V.cell? ⟨w.heap.size + 1 + 1 + 1, 3, none⟩ = some (.string ⟨#[]⟩) ∧ V.cell? ⟨w.heap.size + 1 + 1 + 1, 4, none⟩ = some (.bool false) ∧ V.cell? ⟨w.heap.size + 1 + 1 + 1, 5, none⟩ = some (.int .u64 0) ∧ V.cell? ⟨w.heap.size + 1 + 1 + 1, 6, none⟩ = some (.int .i64 0))
    ((refine HS.out _ ?_; repeat (first | with_reducible exact Fr.refl _ _ | with_reducible refine Fr.drew ?_ | with_reducible refine fr_at1 ?_ | with_reducible refine fr_at2 ?_)))
    (fail)
  obtain ⟨V, hV, hVa, hVt, hVb⟩ := HPW1.out.frm.out (badA ⟨cs, cr, ck, ckey, cval⟩) (0, 0)
  dsimp only [badA, zeroA] at hV
  rw [← hV]
  clear hV
  rename_i hheld
  clear hheld
  go_wp2_with fail
  refine bodyPost_ret (results_tmp_row_row rfl _ V.drew hVa hVt rfl rfl Try.underlying34 rfl rfl Try.underlying25 rfl rfl) rfl ?_
  exact ⟨rfl, hVb.drew⟩
set_option maxHeartbeats 1000000 in
set_option maxRecDepth 100000 in
theorem take_waits (h : Tab w B gt ba bo ss of) (c : Cal) (hn : OkI c.sess) (h0 : 0 ≤ c.sess) {g : Nat} {o : One} (hq : getM ss c.sess = some (g, o)) (hr : c.req = o.req) (hb : o.busy = true) :
    Calls Try.prog 9 #[.pointer (some ⟨gt, 0, none⟩), calV c] w fun e w' => e = .returned (.tuple #[.int .i64 2, ansV zeroA, tidV (0, 0)]) ∧ Below w.heap.size w w' := by
  have hfr := frm_new w c
  obtain ⟨X, hX⟩ : ∃ X, X = (((w.alloc (calR c)).alloc (ansR zeroA)).alloc (tidR (0, 0))).alloc (ansR (badA c)) := ⟨_, rfl⟩
  rw [← hX] at hfr
  have hpt : Pt w X c B gt ba bo ss of := ⟨hfr, h.below hfr.below⟩
  have hlook := hpt.look hn
  rw [hq] at hlook
  simp only [Option.map_some] at hlook
  have hgl : g < w.heap.size := lt_size (h.rows _ _ hq).1
  obtain ⟨cs, cr, ck, ckey, cval⟩ := c
  have HP := Lib.hid hpt
  unfold calR ansR tidR zeroA badA at hX
  dsimp only at hX hlook hn h0
  have HX := Lib.hid hX
  clear hX hfr hpt h
  unfold calV
  go_enter Try.func9, Try.ntmps9
  go_upto_region 2 with fail
  rw [← HX.out]
  clear HX
  obtain ⟨f0, f1, f2, f3, f4⟩ := cal_cells HP.out.frm.call
  obtain ⟨t0, t1⟩ := tab_cells HP.out.tab
  dsimp only at f0 f1 f2 f3 f4
  go_upto_region 4 with fail
  go_quiet (fail)
  generalize hW1 : X.drewN nq = W1
  have HPW1 : Hid (Pt w W1 _ B gt ba bo ss of) := Lib.hid (hW1 ▸ HP.out.drewN nq)
  clear f0 f1 f2 f3 f4 t0 t1 hlook
  obtain ⟨o0, o1, o2, o3, o4, _⟩ := one_cells (HPW1.out.row hq)
  obtain ⟨f0, f1, f2, f3, f4⟩ := cal_cells HPW1.out.frm.call
  dsimp only at f0 f1 f2 f3 f4
  have hr1 : (cr == o.req) = true := by simp [show cr = o.req from hr]
  rw [hb] at o1
  go_wp2_with fail
  go_quiet (fail)
  generalize hW2 : W1.drewN nq = W2
  have HPW2 : Hid (Pt w W2 _ B gt ba bo ss of) := Lib.hid (hW2 ▸ HPW1.out.drewN nq)
  clear o0 o1 o2 o3 o4 f0 f1 f2 f3 f4
  obtain ⟨z0, z1, z2, z3, z4, z5, z6, zf⟩ := ans_cells HPW2.out.frm.ans
  obtain ⟨y0, y1, yf⟩ := tid_cells HPW2.out.frm.tid
  go_wp2_with fail
  obtain ⟨V, hV, hVa, hVt, hVb⟩ := HPW2.out.frm.out zeroA (0, 0)
  dsimp only [badA, zeroA] at hV
  rw [← hV]
  clear hV
  go_wp2_with fail
  refine bodyPost_ret (results_tmp_row_row rfl _ V hVa hVt rfl rfl Try.underlying34 rfl rfl Try.underlying25 rfl rfl) rfl ?_
  exact ⟨rfl, hVb⟩
set_option maxHeartbeats 1000000 in
set_option maxRecDepth 100000 in
theorem take_last (h : Tab w B gt ba bo ss of) (c : Cal) (hn : OkI c.sess) (h0 : 0 ≤ c.sess) {g : Nat} {o : One} (hq : getM ss c.sess = some (g, o)) (hr : c.req = o.req) (hb : o.busy = false) :
    Calls Try.prog 9 #[.pointer (some ⟨gt, 0, none⟩), calV c] w fun e w' => e = .returned (.tuple #[.int .i64 1, ansV o.last, tidV (0, 0)]) ∧ Below w.heap.size w w' := by
  have hfr := frm_new w c
  obtain ⟨X, hX⟩ : ∃ X, X = (((w.alloc (calR c)).alloc (ansR zeroA)).alloc (tidR (0, 0))).alloc (ansR (badA c)) := ⟨_, rfl⟩
  rw [← hX] at hfr
  have hpt : Pt w X c B gt ba bo ss of := ⟨hfr, h.below hfr.below⟩
  have hlook := hpt.look hn
  rw [hq] at hlook
  simp only [Option.map_some] at hlook
  have hgl : g < w.heap.size := lt_size (h.rows _ _ hq).1
  obtain ⟨cs, cr, ck, ckey, cval⟩ := c
  have HP := Lib.hid hpt
  unfold calR ansR tidR zeroA badA at hX
  dsimp only at hX hlook hn h0
  have HX := Lib.hid hX
  clear hX hfr hpt h
  unfold calV
  go_enter Try.func9, Try.ntmps9
  go_upto_region 2 with fail
  rw [← HX.out]
  clear HX
  obtain ⟨f0, f1, f2, f3, f4⟩ := cal_cells HP.out.frm.call
  obtain ⟨t0, t1⟩ := tab_cells HP.out.tab
  dsimp only at f0 f1 f2 f3 f4
  go_upto_region 4 with fail
  go_quiet (fail)
  generalize hW1 : X.drewN nq = W1
  have HPW1 : Hid (Pt w W1 _ B gt ba bo ss of) := Lib.hid (hW1 ▸ HP.out.drewN nq)
  clear f0 f1 f2 f3 f4 t0 t1 hlook
  obtain ⟨o0, o1, o2, o3, o4, _⟩ := one_cells (HPW1.out.row hq)
  obtain ⟨f0, f1, f2, f3, f4⟩ := cal_cells HPW1.out.frm.call
  dsimp only at f0 f1 f2 f3 f4
  have hr1 : (cr == o.req) = true := by simp [show cr = o.req from hr]
  rw [hb] at o1
  go_wp2_with fail
  go_quiet (fail)
  generalize hW2 : W1.drewN nq = W2
  have HPW2 : Hid (Pt w W2 _ B gt ba bo ss of) := Lib.hid (hW2 ▸ HPW1.out.drewN nq)
  clear o0 o1 o2 o3 o4 f0 f1 f2 f3 f4
  obtain ⟨o0, o1, o2, o3, o4, _⟩ := one_cells (HPW2.out.row hq)
  obtain ⟨f0, f1, f2, f3, f4⟩ := cal_cells HPW2.out.frm.call
  dsimp only at f0 f1 f2 f3 f4
  go_wp2_with fail
  go_quiet (fail)
  generalize hW3 : W2.drewN nq = W3
  have HPW3 : Hid (Pt w W3 _ B gt ba bo ss of) := Lib.hid (hW3 ▸ HPW2.out.drewN nq)
  clear o0 o1 o2 o3 o4 f0 f1 f2 f3 f4
  go_upto_region 13 with fail
  obtain ⟨z0, z1, z2, z3, z4, z5, z6, zf⟩ := ans_cells HPW3.out.frm.ans
  obtain ⟨y0, y1, yf⟩ := tid_cells HPW3.out.frm.tid
  have HS : Hid (∀ V, Fr (fun k => k = w.heap.size + 1 ∨ k = w.heap.size + 1 + 1) W3 V → _) := fun V hf => one_last (HPW3.out.row hq) hgl hf
  try dsimp only at HS
  obtain ⟨s0, s1, s2, s3, s4, s5, s6⟩ := HS.out _ (Fr.refl _ _)
  go_region_held3 (fun V => V.cell? ⟨g, 5, none⟩ = some (.int .i64 o.last.sess) ∧ V.cell? ⟨g, 6, none⟩ = some (.int .i64 o.last.req) ∧ V.cell? ⟨g, 7, none⟩ = some (.int .i64 o.last.code) ∧ V.cell? ⟨g, 8, none⟩ = some (.string o.last.val) ∧ V.cell? ⟨g, 9, none⟩ = some (.bool o.last.has) ∧ V.cell? ⟨g, 10, none⟩ = some (.int .u64 o.last.tid.1) ∧ V.cell? ⟨g, 11, none⟩ = some (.int .i64 o.last.tid.2))
    ((refine HS.out _ ?_; repeat (first | with_reducible exact Fr.refl _ _ | with_reducible refine Fr.drew ?_ | with_reducible refine fr_at1 ?_ | with_reducible refine fr_at2 ?_)))
    (fail)
  obtain ⟨V, hV, hVa, hVt, hVb⟩ := HPW3.out.frm.out o.last (0, 0)
  dsimp only [badA, zeroA] at hV
  rw [← hV]
  clear hV
  rename_i hheld
  clear hheld
  go_wp2_with fail
  refine bodyPost_ret (results_tmp_row_row rfl _ V.drew hVa hVt rfl rfl Try.underlying34 rfl rfl Try.underlying25 rfl rfl) rfl ?_
  exact ⟨rfl, hVb.drew⟩
set_option maxHeartbeats 1000000 in
set_option maxRecDepth 100000 in
theorem take_busy (h : Tab w B gt ba bo ss of) (c : Cal) (hn : OkI c.sess) (h0 : 0 ≤ c.sess) {g : Nat} {o : One} (hq : getM ss c.sess = some (g, o)) (hr : c.req ≠ o.req) (hb : o.busy = true) :
    Calls Try.prog 9 #[.pointer (some ⟨gt, 0, none⟩), calV c] w fun e w' => e = .returned (.tuple #[.int .i64 1, ansV (badA c), tidV (0, 0)]) ∧ Below w.heap.size w w' := by
  have hfr := frm_new w c
  obtain ⟨X, hX⟩ : ∃ X, X = (((w.alloc (calR c)).alloc (ansR zeroA)).alloc (tidR (0, 0))).alloc (ansR (badA c)) := ⟨_, rfl⟩
  rw [← hX] at hfr
  have hpt : Pt w X c B gt ba bo ss of := ⟨hfr, h.below hfr.below⟩
  have hlook := hpt.look hn
  rw [hq] at hlook
  simp only [Option.map_some] at hlook
  have hgl : g < w.heap.size := lt_size (h.rows _ _ hq).1
  obtain ⟨cs, cr, ck, ckey, cval⟩ := c
  have HP := Lib.hid hpt
  unfold calR ansR tidR zeroA badA at hX
  dsimp only at hX hlook hn h0
  have HX := Lib.hid hX
  clear hX hfr hpt h
  unfold calV
  go_enter Try.func9, Try.ntmps9
  go_upto_region 2 with fail
  rw [← HX.out]
  clear HX
  obtain ⟨f0, f1, f2, f3, f4⟩ := cal_cells HP.out.frm.call
  obtain ⟨t0, t1⟩ := tab_cells HP.out.tab
  dsimp only at f0 f1 f2 f3 f4
  go_upto_region 4 with fail
  go_quiet (fail)
  generalize hW1 : X.drewN nq = W1
  have HPW1 : Hid (Pt w W1 _ B gt ba bo ss of) := Lib.hid (hW1 ▸ HP.out.drewN nq)
  clear f0 f1 f2 f3 f4 t0 t1 hlook
  obtain ⟨o0, o1, o2, o3, o4, _⟩ := one_cells (HPW1.out.row hq)
  obtain ⟨f0, f1, f2, f3, f4⟩ := cal_cells HPW1.out.frm.call
  dsimp only at f0 f1 f2 f3 f4
  have hr1 : (cr == o.req) = false := by simp [show ¬ cr = o.req from hr]
  rw [hb] at o1
  go_wp2_with fail
  go_quiet (fail)
  generalize hW2 : W1.drewN nq = W2
  have HPW2 : Hid (Pt w W2 _ B gt ba bo ss of) := Lib.hid (hW2 ▸ HPW1.out.drewN nq)
  clear o0 o1 o2 o3 o4 f0 f1 f2 f3 f4
  obtain ⟨o0, o1, o2, o3, o4, _⟩ := one_cells (HPW2.out.row hq)
  obtain ⟨f0, f1, f2, f3, f4⟩ := cal_cells HPW2.out.frm.call
  dsimp only at f0 f1 f2 f3 f4
  go_wp2_with fail
  go_quiet (fail)
  generalize hW3 : W2.drewN nq = W3
  have HPW3 : Hid (Pt w W3 _ B gt ba bo ss of) := Lib.hid (hW3 ▸ HPW2.out.drewN nq)
  clear o0 o1 o2 o3 o4 f0 f1 f2 f3 f4
  obtain ⟨o0, o1, o2, o3, o4, _⟩ := one_cells (HPW3.out.row hq)
  obtain ⟨f0, f1, f2, f3, f4⟩ := cal_cells HPW3.out.frm.call
  dsimp only at f0 f1 f2 f3 f4
  rw [hb] at o1
  go_wp2_with fail
  go_quiet (fail)
  generalize hW4 : W3.drewN nq = W4
  have HPW4 : Hid (Pt w W4 _ B gt ba bo ss of) := Lib.hid (hW4 ▸ HPW3.out.drewN nq)
  clear o0 o1 o2 o3 o4 f0 f1 f2 f3 f4
  go_upto_region 15 with fail
  obtain ⟨z0, z1, z2, z3, z4, z5, z6, zf⟩ := ans_cells HPW4.out.frm.ans
  obtain ⟨y0, y1, yf⟩ := tid_cells HPW4.out.frm.tid
  have HS : Hid (∀ V, Fr (fun k => k = w.heap.size + 1 ∨ k = w.heap.size + 1 + 1) W4 V → _) := fun V hf => HPW4.out.frm.badS hf
  try dsimp only at HS
  obtain ⟨s0, s1, s2, s3, s4, s5, s6⟩ := HS.out _ (Fr.refl _ _)
  go_region_held3 (fun V => V.cell? ⟨w.heap.size + 1 + 1 + 1, 0, none⟩ = some (.int .i64 cs) ∧ V.cell? ⟨w.heap.size + 1 + 1 + 1, 1, none⟩ = some (.int .i64 cr) ∧ V.cell? ⟨w.heap.size + 1 + 1 + 1, 2, none⟩ = some (.int .i64 17) ∧ V.cell? ⟨w.heap.size + 1 + 1 + 1, 3, none⟩ = some (.string ⟨#[]⟩) ∧ V.cell? ⟨w.heap.size + 1 + 1 + 1, 4, none⟩ = some (.bool false) ∧ V.cell? ⟨w.heap.size + 1 + 1 + 1, 5, none⟩ = some (.int .u64 0) ∧ V.cell? ⟨w.heap.size + 1 + 1 + 1, 6, none⟩ = some (.int .i64 0))
    ((refine HS.out _ ?_; repeat (first | with_reducible exact Fr.refl _ _ | with_reducible refine Fr.drew ?_ | with_reducible refine fr_at1 ?_ | with_reducible refine fr_at2 ?_)))
    (fail)
  obtain ⟨V, hV, hVa, hVt, hVb⟩ := HPW4.out.frm.out (badA ⟨cs, cr, ck, ckey, cval⟩) (0, 0)
  dsimp only [badA, zeroA] at hV
  rw [← hV]
  clear hV
  rename_i hheld
  clear hheld
  go_wp2_with fail
  refine bodyPost_ret (results_tmp_row_row rfl _ V.drew hVa hVt rfl rfl Try.underlying34 rfl rfl Try.underlying25 rfl rfl) rfl ?_
  exact ⟨rfl, hVb.drew⟩
set_option maxHeartbeats 1000000 in
set_option maxRecDepth 100000 in
theorem take_past (h : Tab w B gt ba bo ss of) (c : Cal) (hn : OkI c.sess) (h0 : 0 ≤ c.sess) {g : Nat} {o : One} (hq : getM ss c.sess = some (g, o)) (hr : c.req ≠ o.req) (hb : o.busy = false) (hp : c.req ≠ IntKind.i64.wrap (o.req + 1)) :
    Calls Try.prog 9 #[.pointer (some ⟨gt, 0, none⟩), calV c] w fun e w' => e = .returned (.tuple #[.int .i64 1, ansV (badA c), tidV (0, 0)]) ∧ Below w.heap.size w w' := by
  have hfr := frm_new w c
  obtain ⟨X, hX⟩ : ∃ X, X = (((w.alloc (calR c)).alloc (ansR zeroA)).alloc (tidR (0, 0))).alloc (ansR (badA c)) := ⟨_, rfl⟩
  rw [← hX] at hfr
  have hpt : Pt w X c B gt ba bo ss of := ⟨hfr, h.below hfr.below⟩
  have hlook := hpt.look hn
  rw [hq] at hlook
  simp only [Option.map_some] at hlook
  have hgl : g < w.heap.size := lt_size (h.rows _ _ hq).1
  obtain ⟨cs, cr, ck, ckey, cval⟩ := c
  have HP := Lib.hid hpt
  unfold calR ansR tidR zeroA badA at hX
  dsimp only at hX hlook hn h0
  have HX := Lib.hid hX
  clear hX hfr hpt h
  unfold calV
  go_enter Try.func9, Try.ntmps9
  go_upto_region 2 with fail
  rw [← HX.out]
  clear HX
  obtain ⟨f0, f1, f2, f3, f4⟩ := cal_cells HP.out.frm.call
  obtain ⟨t0, t1⟩ := tab_cells HP.out.tab
  dsimp only at f0 f1 f2 f3 f4
  go_upto_region 4 with fail
  go_quiet (fail)
  generalize hW1 : X.drewN nq = W1
  have HPW1 : Hid (Pt w W1 _ B gt ba bo ss of) := Lib.hid (hW1 ▸ HP.out.drewN nq)
  clear f0 f1 f2 f3 f4 t0 t1 hlook
  obtain ⟨o0, o1, o2, o3, o4, _⟩ := one_cells (HPW1.out.row hq)
  obtain ⟨f0, f1, f2, f3, f4⟩ := cal_cells HPW1.out.frm.call
  dsimp only at f0 f1 f2 f3 f4
  have hr1 : (cr == o.req) = false := by simp [show ¬ cr = o.req from hr]
  rw [hb] at o1
  go_wp2_with fail
  go_quiet (fail)
  generalize hW2 : W1.drewN nq = W2
  have HPW2 : Hid (Pt w W2 _ B gt ba bo ss of) := Lib.hid (hW2 ▸ HPW1.out.drewN nq)
  clear o0 o1 o2 o3 o4 f0 f1 f2 f3 f4
  obtain ⟨o0, o1, o2, o3, o4, _⟩ := one_cells (HPW2.out.row hq)
  obtain ⟨f0, f1, f2, f3, f4⟩ := cal_cells HPW2.out.frm.call
  dsimp only at f0 f1 f2 f3 f4
  go_wp2_with fail
  go_quiet (fail)
  generalize hW3 : W2.drewN nq = W3
  have HPW3 : Hid (Pt w W3 _ B gt ba bo ss of) := Lib.hid (hW3 ▸ HPW2.out.drewN nq)
  clear o0 o1 o2 o3 o4 f0 f1 f2 f3 f4
  obtain ⟨o0, o1, o2, o3, o4, _⟩ := one_cells (HPW3.out.row hq)
  obtain ⟨f0, f1, f2, f3, f4⟩ := cal_cells HPW3.out.frm.call
  dsimp only at f0 f1 f2 f3 f4
  rw [hb] at o1
  obtain ⟨nx, hnx⟩ : ∃ nx, nx = IntKind.i64.wrap (o.req + 1) := ⟨_, rfl⟩
  have hw : IntKind.i64.wrap (o.req + 1) = nx := hnx.symm
  have hw64 : wrap64 (o.req + 1) = nx := by rw [hnx, IntKind.wrap_i64]; unfold wrap64; omega
  have hp9 : ¬ cr = nx := by rw [hnx]; exact hp
  clear hnx hp
  have hp1 : (cr == nx) = false := by simp [hp9]
  have hp2 : (cr != nx) = true := by simp [hp9]
  go_wp2_with fail
  go_quiet (fail)
  generalize hW4 : W3.drewN nq = W4
  have HPW4 : Hid (Pt w W4 _ B gt ba bo ss of) := Lib.hid (hW4 ▸ HPW3.out.drewN nq)
  clear o0 o1 o2 o3 o4 f0 f1 f2 f3 f4
  go_upto_region 15 with fail
  obtain ⟨z0, z1, z2, z3, z4, z5, z6, zf⟩ := ans_cells HPW4.out.frm.ans
  obtain ⟨y0, y1, yf⟩ := tid_cells HPW4.out.frm.tid
  have HS : Hid (∀ V, Fr (fun k => k = w.heap.size + 1 ∨ k = w.heap.size + 1 + 1) W4 V → _) := fun V hf => HPW4.out.frm.badS hf
  try dsimp only at HS
  obtain ⟨s0, s1, s2, s3, s4, s5, s6⟩ := HS.out _ (Fr.refl _ _)
  go_region_held3 (fun V => V.cell? ⟨w.heap.size + 1 + 1 + 1, 0, none⟩ = some (.int .i64 cs) ∧ V.cell? ⟨w.heap.size + 1 + 1 + 1, 1, none⟩ = some (.int .i64 cr) ∧ V.cell? ⟨w.heap.size + 1 + 1 + 1, 2, none⟩ = some (.int .i64 17) ∧ V.cell? ⟨w.heap.size + 1 + 1 + 1, 3, none⟩ = some (.string ⟨#[]⟩) ∧ V.cell? ⟨w.heap.size + 1 + 1 + 1, 4, none⟩ = some (.bool false) ∧ V.cell? ⟨w.heap.size + 1 + 1 + 1, 5, none⟩ = some (.int .u64 0) ∧ V.cell? ⟨w.heap.size + 1 + 1 + 1, 6, none⟩ = some (.int .i64 0))
    ((refine HS.out _ ?_; repeat (first | with_reducible exact Fr.refl _ _ | with_reducible refine Fr.drew ?_ | with_reducible refine fr_at1 ?_ | with_reducible refine fr_at2 ?_)))
    (fail)
  obtain ⟨V, hV, hVa, hVt, hVb⟩ := HPW4.out.frm.out (badA ⟨cs, cr, ck, ckey, cval⟩) (0, 0)
  dsimp only [badA, zeroA] at hV
  rw [← hV]
  clear hV
  rename_i hheld
  clear hheld
  go_wp2_with fail
  refine bodyPost_ret (results_tmp_row_row rfl _ V.drew hVa hVt rfl rfl Try.underlying34 rfl rfl Try.underlying25 rfl rfl) rfl ?_
  exact ⟨rfl, hVb.drew⟩
#print axioms take_past
end Go.Proofs.Ytffjkdeggkppnaa.Sess
