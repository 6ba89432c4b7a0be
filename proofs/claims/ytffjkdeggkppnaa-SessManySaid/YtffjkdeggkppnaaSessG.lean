/- Sess: Take, where the session is a new one. -/
import Derived.Test.YtffjkdeggkppnaaSessF
set_option linter.unusedVariables false
set_option linter.unusedSimpArgs false
set_option linter.unusedSectionVars false
namespace Go.Proofs.Ytffjkdeggkppnaa.Sess
open Go.RowKit Go.WideShapes Go.Deep Go.Proofs.Ytffjkdeggkppnaa.Mem Go.Proofs.Ytffjkdeggkppnaa.Maps Go.Proofs.Ytffjkdeggkppnaa.Tid Go.Proofs.Ytffjkdeggkppnaa.KeyA
variable {B gt ba bo : Nat} {w w' w2 : World} {ss : List (Int × (Nat × One))} {of : List ((Int × Int) × Int)}
def zeroO : One := ⟨0, false, (0, 0), false, zeroA⟩
theorem Pt.more {W w4 : World} {c : Cal} (h : Pt w W c B gt ba bo ss of) (hB : B ≤ w.heap.size) (hq : getM ss c.sess = none) (ht : Turned (W.alloc (oneR zeroO)).drew w4 ba) (hm : SAt w4 ba (setM ss c.sess (W.heap.size, zeroO))) : Pq w w4 c B gt ba bo (setM ss c.sess (W.heap.size, zeroO)) of := by
  have h2 : Pt w (W.alloc (oneR zeroO)).drew c B gt ba bo ss of := ⟨⟨(h.frm.below.alloc (by have := h.frm.size; omega) _).drew, (Below.heap_alloc _ _ _ (lt_size h.frm.call)).trans h.frm.call, (Below.heap_alloc _ _ _ (lt_size h.frm.ans)).trans h.frm.ans, (Below.heap_alloc _ _ _ (lt_size h.frm.tid)).trans h.frm.tid, (Below.heap_alloc _ _ _ (lt_size h.frm.bad)).trans h.frm.bad, by have := h.frm.size; show _ ≤ (W.alloc _).heap.size; simp; omega⟩, (h.tab.alloc _).drewN 1⟩
  obtain ⟨h3, h4⟩ := h2.tab.more hq (heap_alloc_new W (oneR zeroO)) (by have := h.frm.size; omega) (fun m q hm e => by have := lt_size (h.tab.rows m q hm).1; omega) ht hm
  exact (h2.q hB).kept h3 h4
set_option maxHeartbeats 1000000 in
set_option maxRecDepth 100000 in
theorem take_new_err (h : Tab w B gt ba bo ss of) (c : Cal) (hn : OkI c.sess) (h0 : 0 ≤ c.sess) (hq : getM ss c.sess = none) (hb : c.req = 1) (hl : ss.length < 100) (hks : c.key.size ≤ 9223372036854775807) (hvs : c.val.size ≤ 9223372036854775807) {z : Int} (hz : checkZ zeroO.op c = z) (hz0 : z ≠ 0) :
    Calls Try.prog 9 #[.pointer (some ⟨gt, 0, none⟩), calV c] w fun e w' => e = .returned (.tuple #[.int .i64 1, ansV (errA c zeroO z), tidV (0, 0)]) ∧ ∃ g, w.heap.size ≤ g ∧ Tab w' B gt ba bo (setM ss c.sess (g, done (called zeroO c) (errA c zeroO z))) of ∧ Kp B w w' := by
  have hfr := frm_new w c
  obtain ⟨X, hX⟩ : ∃ X, X = (((w.alloc (calR c)).alloc (ansR zeroA)).alloc (tidR (0, 0))).alloc (ansR (badA c)) := ⟨_, rfl⟩
  rw [← hX] at hfr
  have hpt : Pt w X c B gt ba bo ss of := ⟨hfr, h.below hfr.below⟩
  have hlook := hpt.look hn
  rw [hq] at hlook
  simp only [Option.map_none] at hlook
  obtain ⟨cs, cr, ck, ckey, cval⟩ := c
  have HP := Lib.hid hpt
  unfold calR ansR tidR zeroA badA at hX
  dsimp only at hX hlook hn h0
  have HX := Lib.hid hX
  have HB := Lib.hid h.size
  clear hX hfr hpt h
  unfold calV
  go_enter Try.func9, Try.ntmps9
  go_upto_region 2 with fail
  rw [← HX.out]
  clear HX
  obtain ⟨f0, f1, f2, f3, f4⟩ := cal_cells HP.out.frm.call
  obtain ⟨t0, t1⟩ := tab_cells HP.out.tab
  dsimp only at f0 f1 f2 f3 f4
  dsimp only at hks hvs
  have HZZ := Lib.hid hz
  have hzb : (z == 0) = false := by simp [hz0]
  clear hz0 hz
  go_upto_region 4 with fail
  go_quiet (fail)
  generalize hW1 : X.drewN nq = W1
  have HPW1 : Hid (Pt w W1 _ B gt ba bo ss of) := Lib.hid (hW1 ▸ HP.out.drewN nq)
  clear f0 f1 f2 f3 f4 t0 t1 hlook
  obtain ⟨f0, f1, f2, f3, f4⟩ := cal_cells HPW1.out.frm.call
  dsimp only at f0 f1 f2 f3 f4 hb
  have hb1 : (cr == 1) = true := by simp [hb]
  have hb2 : (cr != 1) = false := by simp [hb]
  have hl' : ¬ (100 : Int) ≤ (ss.length : Int) := by omega
  clear hb hl
  have hlen := run_lens HPW1.out.tab
  obtain ⟨t0, t1⟩ := tab_cells HPW1.out.tab
  go_upto_region 9 with fail
  clear hlen f0 f1 f2 f3 f4 t0 t1 hb1 hb2 hl'
  obtain ⟨W2, hW2⟩ : ∃ W2, W2 = W1.alloc (oneR zeroO) := ⟨_, rfl⟩
  have hp2 : Tab W2 B gt ba bo ss of := by rw [hW2]; exact HPW1.out.tab.alloc _
  have hc2 : W2.heap[w.heap.size]? = some (calR ⟨cs, cr, ck, ckey, cval⟩) := by rw [hW2]; exact (Below.heap_alloc _ _ _ (lt_size HPW1.out.frm.call)).trans HPW1.out.frm.call
  obtain ⟨f0, f1, f2, f3, f4⟩ := cal_cells hc2
  obtain ⟨t0, t1⟩ := tab_cells hp2
  obtain ⟨w4, hup, hat4, ht4⟩ := Maps.run_update (P := Try.prog) (t := 51) (e := 55) km_int Try.underlying51 (hp2.drewN 1).fa (x := cs) hn (W1.heap.size, zeroO)
  unfold encI encQ at hup
  dsimp only at hup f0 f1 f2 f3 f4
  obtain ⟨g, hg⟩ : ∃ g, g = W1.heap.size := ⟨_, rfl⟩
  have HGE : Hid (w.heap.size ≤ g) := Lib.hid (by rw [hg]; have := HPW1.out.frm.size; omega)
  have HPQ : Hid (Pq w w4 (Cal.mk cs cr ck ckey cval) B gt ba bo (setM ss cs (g, zeroO)) of) := Lib.hid (by
    rw [hg]
    have e : (W2.drewN 1) = (W1.alloc (oneR zeroO)).drew := by rw [hW2]; rfl
    rw [e] at ht4
    exact HPW1.out.more HB.out hq ht4 hat4)
  have HQQ : Hid (getM (setM ss cs (g, zeroO)) (Cal.mk cs cr ck ckey cval).sess = some (g, zeroO)) := Lib.hid (getM_set_same _ _ _)
  have HS : Hid (∀ V, Fr (fun _ => False) W2 V → V.cell? ⟨gt, 0, none⟩ = some (.map (some ba)) ∧ V.cell? ⟨w.heap.size, 0, none⟩ = some (.int .i64 cs)) := fun V hf => ⟨hf.cell t0 (fun h => h), hf.cell f0 (fun h => h)⟩
  have HS4 : Hid (w4.cell? ⟨gt, 0, none⟩ = some (.map (some ba)) ∧ w4.cell? ⟨w.heap.size, 0, none⟩ = some (.int .i64 cs)) := Lib.hid ⟨(ht4.cell _).trans t0, (ht4.cell _).trans f0⟩
  have hup' : ∀ t, t = W2.drew → (Instr.mapUpdate 51 (.map (some ba)) (.int .i64 cs) (.pointer (some ⟨g, 0, none⟩))).run Try.prog t = .ok () w4 := fun t e => by rw [e, hg]; exact hup
  have hup2 := hup' _ rfl
  rw [← hg]
  have HW2 := Lib.hid hW2
  clear hg hup hup' hat4 ht4 hp2 hc2 hq t1 f1 f2 f3 f4 hW2
  unfold oneR zeroO zeroA at HW2
  dsimp only at HW2
  rw [← HW2.out]
  clear HW2
  go_region_held3 (fun V => V.cell? ⟨gt, 0, none⟩ = some (.map (some ba)) ∧ V.cell? ⟨w.heap.size, 0, none⟩ = some (.int .i64 cs))
    ((first | exact HS4.out | (refine HS.out _ ?_; repeat (first | with_reducible exact Fr.refl _ _ | with_reducible refine Fr.drew ?_))))
    (fail)
  rename_i hheld
  clear hheld
  clear HS HS4 t0 f0 hup2
  go_upto_region 16 with fail
  obtain ⟨W5, hW5, hp5⟩ := HPQ.out.called HQQ.out
  try dsimp only at hW5
  have HP5 := Lib.hid hp5
  have HQ5 : Hid (getM (setM (setM ss cs (g, zeroO)) cs (g, called zeroO ⟨cs, cr, ck, ckey, cval⟩)) cs = some (g, called zeroO ⟨cs, cr, ck, ckey, cval⟩)) := Lib.hid (getM_set_same _ _ _)
  have HW5 := Lib.hid hW5
  obtain ⟨f0, f1, f2, f3, f4⟩ := cal_cells HPQ.out.call
  dsimp only at f0 f1 f2 f3 f4
  obtain ⟨o0, o1, o2, o3, o4, _, _, _, _, _, _, _, of_⟩ := one_cells (HPQ.out.tab.rows _ _ HQQ.out).1
  try dsimp only at o0 o1 o2 o3 o4 of_
  clear hW5 hp5
  go_upto_region 17 with fail
  rw [← HW5.out]
  clear HW5 f0 f1 f2 f3 f4 o0 o1 o2 o3 o4 of_
  obtain ⟨f0, f1, f2, f3, f4⟩ := cal_cells HP5.out.call
  dsimp only at f0 f1 f2 f3 f4
  have hck := check_any W5 (HP5.out.tab.rows _ _ HQ5.out).1 ⟨cs, cr, ck, ckey, cval⟩ hks hvs
  unfold calV at hck
  rw [show (called zeroO ⟨cs, cr, ck, ckey, cval⟩).op = zeroO.op from rfl] at hck
  dsimp only at hck
  rw [show checkZ zeroO.op ⟨cs, cr, ck, ckey, cval⟩ = z from HZZ.out] at hck
  have HCK := Lib.hid hck
  clear hck
  go_wp2_with fail
  refine HCK.out.mono ?_
  rintro e W6 ⟨rfl, hb6⟩
  have HP6 := Lib.hid (HP5.out.below hb6)
  clear hb6 f0 f1 f2 f3 f4 HCK HP5
  obtain ⟨f0, f1, f2, f3, f4⟩ := cal_cells HP6.out.call
  dsimp only at f0 f1 f2 f3 f4
  have hsay := say_any HP6.out.tab hn HQ5.out ⟨0, 0, z, ⟨#[]⟩, false, (0, 0)⟩
  obtain ⟨a9, ha9⟩ : ∃ a9, a9 = errA ⟨cs, cr, ck, ckey, cval⟩ zeroO z := ⟨_, rfl⟩
  have e9 : fill ⟨0, 0, z, ⟨#[]⟩, false, (0, 0)⟩ cs (called zeroO ⟨cs, cr, ck, ckey, cval⟩) = a9 := by rw [ha9]; rfl
  rw [e9] at hsay
  have HA9 := Lib.hid ha9
  clear e9 ha9
  unfold ansV at hsay
  dsimp only at hsay
  have HSAY := Lib.hid hsay
  clear hsay
  go_wp2_with fail
  refine HSAY.out.mono ?_
  rintro e W7 ⟨rfl, ht7, hk7⟩
  have HP7 := Lib.hid (HP6.out.kept ht7 hk7)
  clear ht7 hk7 f0 f1 f2 f3 f4 HSAY
  obtain ⟨z0, z1, z2, z3, z4, z5, z6, zf⟩ := ans_cells HP7.out.ans
  obtain ⟨y0, y1, yf⟩ := tid_cells HP7.out.tid
  obtain ⟨V, hV, hVa, hVt, hT, hK⟩ := HP7.out.out a9 (0, 0)
  try dsimp only at hV
  have HV := Lib.hid hV
  rw [setM_set, setM_set] at hT
  clear hV
  go_wp2_with fail
  rw [← HV.out]
  refine bodyPost_ret (results_tmp_row_row rfl _ V hVa hVt rfl rfl Try.underlying34 rfl rfl Try.underlying25 rfl rfl) rfl ?_
  rw [← HA9.out]
  exact ⟨rfl, g, HGE.out, hT, hK⟩
set_option maxHeartbeats 1000000 in
set_option maxRecDepth 100000 in
theorem take_new_ok (h : Tab w B gt ba bo ss of) (c : Cal) (hn : OkI c.sess) (h0 : 0 ≤ c.sess) (hq : getM ss c.sess = none) (hb : c.req = 1) (hl : ss.length < 100) (hks : c.key.size ≤ 9223372036854775807) (hvs : c.val.size ≤ 9223372036854775807) {z : Int} (hz0 : z = 0) (hz : checkZ zeroO.op c = z) :
    Calls Try.prog 9 #[.pointer (some ⟨gt, 0, none⟩), calV c] w fun e w' => e = .returned (.tuple #[.int .i64 3, ansV zeroA, tidV (0, 0)]) ∧ ∃ g, w.heap.size ≤ g ∧ Tab w' B gt ba bo (setM ss c.sess (g, called zeroO c)) of ∧ Kp B w w' := by
  have hfr := frm_new w c
  obtain ⟨X, hX⟩ : ∃ X, X = (((w.alloc (calR c)).alloc (ansR zeroA)).alloc (tidR (0, 0))).alloc (ansR (badA c)) := ⟨_, rfl⟩
  rw [← hX] at hfr
  have hpt : Pt w X c B gt ba bo ss of := ⟨hfr, h.below hfr.below⟩
  have hlook := hpt.look hn
  rw [hq] at hlook
  simp only [Option.map_none] at hlook
  obtain ⟨cs, cr, ck, ckey, cval⟩ := c
  have HP := Lib.hid hpt
  unfold calR ansR tidR zeroA badA at hX
  dsimp only at hX hlook hn h0
  have HX := Lib.hid hX
  have HB := Lib.hid h.size
  clear hX hfr hpt h
  unfold calV
  go_enter Try.func9, Try.ntmps9
  go_upto_region 2 with fail
  rw [← HX.out]
  clear HX
  obtain ⟨f0, f1, f2, f3, f4⟩ := cal_cells HP.out.frm.call
  obtain ⟨t0, t1⟩ := tab_cells HP.out.tab
  dsimp only at f0 f1 f2 f3 f4
  dsimp only at hks hvs
  have HZZ := Lib.hid hz
  subst hz0
  clear hz
  go_upto_region 4 with fail
  go_quiet (fail)
  generalize hW1 : X.drewN nq = W1
  have HPW1 : Hid (Pt w W1 _ B gt ba bo ss of) := Lib.hid (hW1 ▸ HP.out.drewN nq)
  clear f0 f1 f2 f3 f4 t0 t1 hlook
  obtain ⟨f0, f1, f2, f3, f4⟩ := cal_cells HPW1.out.frm.call
  dsimp only at f0 f1 f2 f3 f4 hb
  have hb1 : (cr == 1) = true := by simp [hb]
  have hb2 : (cr != 1) = false := by simp [hb]
  have hl' : ¬ (100 : Int) ≤ (ss.length : Int) := by omega
  clear hb hl
  have hlen := run_lens HPW1.out.tab
  obtain ⟨t0, t1⟩ := tab_cells HPW1.out.tab
  go_upto_region 9 with fail
  clear hlen f0 f1 f2 f3 f4 t0 t1 hb1 hb2 hl'
  obtain ⟨W2, hW2⟩ : ∃ W2, W2 = W1.alloc (oneR zeroO) := ⟨_, rfl⟩
  have hp2 : Tab W2 B gt ba bo ss of := by rw [hW2]; exact HPW1.out.tab.alloc _
  have hc2 : W2.heap[w.heap.size]? = some (calR ⟨cs, cr, ck, ckey, cval⟩) := by rw [hW2]; exact (Below.heap_alloc _ _ _ (lt_size HPW1.out.frm.call)).trans HPW1.out.frm.call
  obtain ⟨f0, f1, f2, f3, f4⟩ := cal_cells hc2
  obtain ⟨t0, t1⟩ := tab_cells hp2
  obtain ⟨w4, hup, hat4, ht4⟩ := Maps.run_update (P := Try.prog) (t := 51) (e := 55) km_int Try.underlying51 (hp2.drewN 1).fa (x := cs) hn (W1.heap.size, zeroO)
  unfold encI encQ at hup
  dsimp only at hup f0 f1 f2 f3 f4
  obtain ⟨g, hg⟩ : ∃ g, g = W1.heap.size := ⟨_, rfl⟩
  have HGE : Hid (w.heap.size ≤ g) := Lib.hid (by rw [hg]; have := HPW1.out.frm.size; omega)
  have HPQ : Hid (Pq w w4 (Cal.mk cs cr ck ckey cval) B gt ba bo (setM ss cs (g, zeroO)) of) := Lib.hid (by
    rw [hg]
    have e : (W2.drewN 1) = (W1.alloc (oneR zeroO)).drew := by rw [hW2]; rfl
    rw [e] at ht4
    exact HPW1.out.more HB.out hq ht4 hat4)
  have HQQ : Hid (getM (setM ss cs (g, zeroO)) (Cal.mk cs cr ck ckey cval).sess = some (g, zeroO)) := Lib.hid (getM_set_same _ _ _)
  have HS : Hid (∀ V, Fr (fun _ => False) W2 V → V.cell? ⟨gt, 0, none⟩ = some (.map (some ba)) ∧ V.cell? ⟨w.heap.size, 0, none⟩ = some (.int .i64 cs)) := fun V hf => ⟨hf.cell t0 (fun h => h), hf.cell f0 (fun h => h)⟩
  have HS4 : Hid (w4.cell? ⟨gt, 0, none⟩ = some (.map (some ba)) ∧ w4.cell? ⟨w.heap.size, 0, none⟩ = some (.int .i64 cs)) := Lib.hid ⟨(ht4.cell _).trans t0, (ht4.cell _).trans f0⟩
  have hup' : ∀ t, t = W2.drew → (Instr.mapUpdate 51 (.map (some ba)) (.int .i64 cs) (.pointer (some ⟨g, 0, none⟩))).run Try.prog t = .ok () w4 := fun t e => by rw [e, hg]; exact hup
  have hup2 := hup' _ rfl
  rw [← hg]
  have HW2 := Lib.hid hW2
  clear hg hup hup' hat4 ht4 hp2 hc2 hq t1 f1 f2 f3 f4 hW2
  unfold oneR zeroO zeroA at HW2
  dsimp only at HW2
  rw [← HW2.out]
  clear HW2
  go_region_held3 (fun V => V.cell? ⟨gt, 0, none⟩ = some (.map (some ba)) ∧ V.cell? ⟨w.heap.size, 0, none⟩ = some (.int .i64 cs))
    ((first | exact HS4.out | (refine HS.out _ ?_; repeat (first | with_reducible exact Fr.refl _ _ | with_reducible refine Fr.drew ?_))))
    (fail)
  rename_i hheld
  clear hheld
  clear HS HS4 t0 f0 hup2
  go_upto_region 16 with fail
  obtain ⟨W5, hW5, hp5⟩ := HPQ.out.called HQQ.out
  try dsimp only at hW5
  have HP5 := Lib.hid hp5
  have HQ5 : Hid (getM (setM (setM ss cs (g, zeroO)) cs (g, called zeroO ⟨cs, cr, ck, ckey, cval⟩)) cs = some (g, called zeroO ⟨cs, cr, ck, ckey, cval⟩)) := Lib.hid (getM_set_same _ _ _)
  have HW5 := Lib.hid hW5
  obtain ⟨f0, f1, f2, f3, f4⟩ := cal_cells HPQ.out.call
  dsimp only at f0 f1 f2 f3 f4
  obtain ⟨o0, o1, o2, o3, o4, _, _, _, _, _, _, _, of_⟩ := one_cells (HPQ.out.tab.rows _ _ HQQ.out).1
  try dsimp only at o0 o1 o2 o3 o4 of_
  clear hW5 hp5
  go_upto_region 17 with fail
  rw [← HW5.out]
  clear HW5 f0 f1 f2 f3 f4 o0 o1 o2 o3 o4 of_
  obtain ⟨f0, f1, f2, f3, f4⟩ := cal_cells HP5.out.call
  dsimp only at f0 f1 f2 f3 f4
  have hck := check_any W5 (HP5.out.tab.rows _ _ HQ5.out).1 ⟨cs, cr, ck, ckey, cval⟩ hks hvs
  unfold calV at hck
  rw [show (called zeroO ⟨cs, cr, ck, ckey, cval⟩).op = zeroO.op from rfl] at hck
  dsimp only at hck
  rw [show checkZ zeroO.op ⟨cs, cr, ck, ckey, cval⟩ = 0 from HZZ.out] at hck
  have HCK := Lib.hid hck
  clear hck
  go_wp2_with fail
  refine HCK.out.mono ?_
  rintro e W6 ⟨rfl, hb6⟩
  have HP6 := Lib.hid (HP5.out.below hb6)
  clear hb6 f0 f1 f2 f3 f4 HCK HP5
  obtain ⟨f0, f1, f2, f3, f4⟩ := cal_cells HP6.out.call
  dsimp only at f0 f1 f2 f3 f4
  have HS : Hid (∀ V, Fr (fun k => k = w.heap.size + 1 ∨ k = w.heap.size + 1 + 1) W6 V → V.cell? ⟨g, 2, none⟩ = some (.int .u64 zeroO.tid.1) ∧ V.cell? ⟨g, 3, none⟩ = some (.int .i64 zeroO.tid.2)) := fun V hf => HP6.out.tidS (o := called zeroO ⟨cs, cr, ck, ckey, cval⟩) HQ5.out hf
  obtain ⟨s0, s1⟩ := HS.out _ (Fr.refl _ _)
  obtain ⟨z0, z1, z2, z3, z4, z5, z6, zf⟩ := ans_cells HP6.out.ans
  obtain ⟨y0, y1, yf⟩ := tid_cells HP6.out.tid
  clear f0 f1 f2 f3 f4
  go_upto_region 20 with fail
  go_region_held3 (fun V => V.cell? ⟨g, 2, none⟩ = some (.int .u64 zeroO.tid.1) ∧ V.cell? ⟨g, 3, none⟩ = some (.int .i64 zeroO.tid.2))
    ((refine HS.out _ ?_; repeat (first | with_reducible exact Fr.refl _ _ | with_reducible refine Fr.drew ?_ | with_reducible refine fr_at1 ?_ | with_reducible refine fr_at2 ?_)))
    (fail)
  obtain ⟨V, hV, hVa, hVt, hT, hK⟩ := HP6.out.out zeroA zeroO.tid
  rw [setM_set] at hT
  dsimp only [zeroA] at hV
  rw [← hV]
  clear hV
  rename_i hheld
  clear hheld
  go_wp2_with fail
  refine bodyPost_ret (results_tmp_row_row rfl _ V.drew hVa hVt rfl rfl Try.underlying34 rfl rfl Try.underlying25 rfl rfl) rfl ?_
  exact ⟨rfl, g, HGE.out, hT.drewN 1, hK.drew⟩
#print axioms take_new_ok
end Go.Proofs.Ytffjkdeggkppnaa.Sess
