/- Sess: Take, where the call is a new one. -/
import Derived.Test.YtffjkdeggkppnaaSessE
set_option linter.unusedVariables false
set_option linter.unusedSimpArgs false
set_option linter.unusedSectionVars false
namespace Go.Proofs.Ytffjkdeggkppnaa.Sess
open Go.RowKit Go.WideShapes Go.Deep Go.Proofs.Ytffjkdeggkppnaa.Mem Go.Proofs.Ytffjkdeggkppnaa.Maps Go.Proofs.Ytffjkdeggkppnaa.Tid Go.Proofs.Ytffjkdeggkppnaa.KeyA
variable {B gt ba bo : Nat} {w w' w2 : World} {ss : List (Int × (Nat × One))} {of : List ((Int × Int) × Int)}
theorem setM_set {κ ν : Type} [DecidableEq κ] (ms : List (κ × ν)) (x : κ) (v v' : ν) : setM (setM ms x v) x v' = setM ms x v' := by
  by_cases h : ms.any (fun p => decide (p.1 = x)) = true
  · have h2 : (ms.map (fun p => if p.1 = x then (x, v) else p)).any (fun p => decide (p.1 = x)) = true := by
      obtain ⟨p, hp, hx⟩ := List.any_eq_true.1 h
      exact List.any_eq_true.2 ⟨(x, v), List.mem_map.2 ⟨p, hp, by simp [of_decide_eq_true hx]⟩, by simp⟩
    have e1 : setM ms x v = ms.map (fun p => if p.1 = x then (x, v) else p) := by unfold setM; rw [if_pos h]
    have e2 : setM ms x v' = ms.map (fun p => if p.1 = x then (x, v') else p) := by unfold setM; rw [if_pos h]
    rw [e1, e2]
    unfold setM
    rw [if_pos h2, List.map_map]
    apply List.map_congr_left
    intro p _
    by_cases e : p.1 = x <;> simp [e]
  · have h2 : (ms ++ [(x, v)]).any (fun p => decide (p.1 = x)) = true := by simp
    unfold setM
    rw [if_neg h, if_neg h, if_pos h2, List.map_append]
    congr 1
    · rw [List.map_congr_left (g := id)]
      · simp
      · intro p hp
        rw [if_neg (fun e => h (List.any_eq_true.2 ⟨p, hp, by simp [e]⟩))]
        rfl
    · simp
theorem getM_set_same {κ ν : Type} [DecidableEq κ] (ms : List (κ × ν)) (x : κ) (v : ν) : getM (setM ms x v) x = some v := by rw [getM_set, if_pos rfl]
theorem Kp.newS (h : Kp B w w') {S : Nat → Prop} (hf : Fr S w' w2) (hS : ∀ k, S k → w.heap.size ≤ k) (hB : B ≤ w.heap.size) : Kp B w w2 :=
  ⟨h.below.trans (hf.below (Nat.le_trans hB h.below.size) (fun i _ e => Nat.le_trans hB (hS i e))), fun k cs t f hk ht => (hf.block k (by have := lt_size (h.cells k cs t f hk ht); omega) (fun e => by have := lt_size hk; have := hS k e; omega)).trans (h.cells k cs t f hk ht)⟩
theorem Tab.skipS (h : Tab w B gt ba bo ss of) {S : Nat → Prop} (hf : Fr S w w') (hS : ∀ g, S g → ∃ cs t f, w.heap[g]? = some (.cells cs t f) ∧ t ≠ 57 ∧ t ≠ 54) : Tab w' B gt ba bo ss of := by
  have hm : ∀ b es c, w.heap[b]? = some (.map es c) → ¬ S b := fun b es c hb e => by
    obtain ⟨cs, t, f, hg, _⟩ := hS b e
    rw [hg] at hb
    cases hb
  have hc : ∀ (k : Nat) (cs' : Array Value) (t' : TypeId) (f' : Nat × Nat), w.heap[k]? = some (.cells cs' t' f') → (t' = 57 ∨ t' = 54) → ¬ S k := fun k cs' t' f' hk ht e => by
    obtain ⟨cs, t, f, hg, h1, h2⟩ := hS k e
    rw [hg] at hk
    injection hk with hk
    injection hk with _ e
    rcases ht with ht | ht
    · exact h1 (e.trans ht)
    · exact h2 (e.trans ht)
  refine ⟨(hf.block _ (lt_size h.ft) (hc _ _ _ _ h.ft (.inr rfl))).trans h.ft, ?_, ?_, fun n q hq => ⟨(hf.block _ (lt_size (h.rows n q hq).1) (hc _ _ _ _ (h.rows n q hq).1 (.inl rfl))).trans (h.rows n q hq).1, (h.rows n q hq).2⟩, h.lt, h.la, h.lo, h.apart, h.ne, h.into⟩
  · obtain ⟨es, c, e1, _⟩ := h.fa
    exact h.fa.kept (hf.block _ h.fa.lt (hm _ _ _ e1))
  · obtain ⟨es, c, e1, _⟩ := h.fo
    exact h.fo.kept (hf.block _ h.fo.lt (hm _ _ _ e1))
/-- Take's own variables, the table turned. -/
structure Pq (w W : World) (c : Cal) (B gt ba bo : Nat) (ss : List (Int × (Nat × One))) (of : List ((Int × Int) × Int)) : Prop where
  kp : Kp B w W
  call : W.heap[w.heap.size]? = some (calR c)
  ans : W.heap[w.heap.size + 1]? = some (ansR zeroA)
  tid : W.heap[w.heap.size + 1 + 1]? = some (tidR (0, 0))
  tab : Tab W B gt ba bo ss of
  size : B ≤ w.heap.size
theorem Pt.q {W : World} {c : Cal} (h : Pt w W c B gt ba bo ss of) (hB : B ≤ w.heap.size) : Pq w W c B gt ba bo ss of := ⟨Kp.of_below h.frm.below hB, h.frm.call, h.frm.ans, h.frm.tid, h.tab, hB⟩
theorem Pq.below {W : World} {c : Cal} (h : Pq w W c B gt ba bo ss of) (hb : Below W.heap.size W w') : Pq w w' c B gt ba bo ss of :=
  ⟨h.kp.trans (Kp.of_below hb (Nat.le_trans h.size h.kp.below.size)), (hb.block _ (lt_size h.call)).trans h.call, (hb.block _ (lt_size h.ans)).trans h.ans, (hb.block _ (lt_size h.tid)).trans h.tid, h.tab.below hb, h.size⟩
theorem Pq.kept {W : World} {c : Cal} (h : Pq w W c B gt ba bo ss of) {ss' : List (Int × (Nat × One))} {of' : List ((Int × Int) × Int)} (ht : Tab w' B gt ba bo ss' of') (hk : Kp B W w') : Pq w w' c B gt ba bo ss' of' :=
  ⟨h.kp.trans hk, hk.cells _ _ _ _ h.call (by decide), hk.cells _ _ _ _ h.ans (by decide), hk.cells _ _ _ _ h.tid (by decide), ht, h.size⟩
theorem Pq.out {W : World} {c : Cal} (h : Pq w W c B gt ba bo ss of) (a : Ans) (t : Int × Int) : ∃ V, V = (((((((((W.setCell ⟨w.heap.size + 1, 0, none⟩ (.int .i64 a.sess)).setCell ⟨w.heap.size + 1, 1, none⟩ (.int .i64 a.req)).setCell ⟨w.heap.size + 1, 2, none⟩ (.int .i64 a.code)).setCell ⟨w.heap.size + 1, 3, none⟩ (.string a.val)).setCell ⟨w.heap.size + 1, 4, none⟩ (.bool a.has)).setCell ⟨w.heap.size + 1, 5, none⟩ (.int .u64 a.tid.1)).setCell ⟨w.heap.size + 1, 6, none⟩ (.int .i64 a.tid.2)).setCell ⟨w.heap.size + 1 + 1, 0, none⟩ (.int .u64 t.1)).setCell ⟨w.heap.size + 1 + 1, 1, none⟩ (.int .i64 t.2)) ∧
    V.heap[w.heap.size + 1]? = some (ansR a) ∧ V.heap[w.heap.size + 1 + 1]? = some (tidR t) ∧ Tab V B gt ba bo ss of ∧ Kp B w V := by
  have hf : Fr (fun k => k = w.heap.size + 1 ∨ k = w.heap.size + 1 + 1) W (sets (sets W (w.heap.size + 1) [(0, .int .i64 a.sess), (1, .int .i64 a.req), (2, .int .i64 a.code), (3, .string a.val), (4, .bool a.has), (5, .int .u64 a.tid.1), (6, .int .i64 a.tid.2)]) (w.heap.size + 1 + 1) [(0, .int .u64 t.1), (1, .int .i64 t.2)]) :=
    fr_at2 (fr_at2 (fr_at1 (fr_at1 (fr_at1 (fr_at1 (fr_at1 (fr_at1 (fr_at1 (Fr.refl _ _)))))))))
  refine ⟨_, rfl, ?_, ?_, h.tab.skipS hf ?_, h.kp.newS hf (fun k hk => by omega) h.size⟩
  · refine (sets_ne [(0, .int .u64 t.1), (1, .int .i64 t.2)] (sets W (w.heap.size + 1) [(0, .int .i64 a.sess), (1, .int .i64 a.req), (2, .int .i64 a.code), (3, .string a.val), (4, .bool a.has), (5, .int .u64 a.tid.1), (6, .int .i64 a.tid.2)]) (g := w.heap.size + 1 + 1) (by omega)).trans ?_
    exact ans_copied h.ans
  · exact tid_copied (X := sets W (w.heap.size + 1) [(0, .int .i64 a.sess), (1, .int .i64 a.req), (2, .int .i64 a.code), (3, .string a.val), (4, .bool a.has), (5, .int .u64 a.tid.1), (6, .int .i64 a.tid.2)]) ((sets_ne _ _ (by omega)).trans h.tid)
  · rintro g (rfl | rfl)
    · exact ⟨_, _, _, h.ans, by decide, by decide⟩
    · exact ⟨_, _, _, h.tid, by decide, by decide⟩
theorem Pq.tidS {W V : World} {c : Cal} (h : Pq w W c B gt ba bo ss of) {g : Nat} {o : One} (hq : getM ss c.sess = some (g, o)) (hf : Fr (fun k => k = w.heap.size + 1 ∨ k = w.heap.size + 1 + 1) W V) : V.cell? ⟨g, 2, none⟩ = some (.int .u64 o.tid.1) ∧ V.cell? ⟨g, 3, none⟩ = some (.int .i64 o.tid.2) := by
  have hr := (h.tab.rows _ _ hq).1
  have hne : ∀ k cs t, W.heap[k]? = some (.cells cs t (0, 0)) → t ≠ 57 → g ≠ k := fun k cs t hk ht e => by
    subst e
    have := hk.symm.trans hr
    injection this with this
    injection this with _ e
    exact ht e
  obtain ⟨_, _, a0, a1, _⟩ := one_cells (hf.blk hr (fun e => e.elim (hne _ _ _ h.ans (by decide)) (hne _ _ _ h.tid (by decide))))
  exact ⟨a0, a1⟩
def called (o : One) (c : Cal) : One := { o with req := c.req, busy := true }
theorem one_called {Y : World} {g : Nat} {o : One} {c : Cal} (h : Y.heap[g]? = some (oneR o)) : (sets Y g [(0, .int .i64 c.req), (1, .bool true)]).heap[g]? = some (oneR (called o c)) := by
  unfold oneR at h ⊢
  rw [sets_row _ Y h]
  simp [called]
/-- s.req, s.busy = c.Req, true. -/
theorem Pq.called {W : World} {c : Cal} (h : Pq w W c B gt ba bo ss of) {g : Nat} {o : One} (hq : getM ss c.sess = some (g, o)) : ∃ V, V = (W.setCell ⟨g, 0, none⟩ (.int .i64 c.req)).setCell ⟨g, 1, none⟩ (.bool true) ∧ Pq w V c B gt ba bo (setM ss c.sess (g, called o c)) of := by
  refine ⟨_, rfl, ?_⟩
  obtain ⟨h1, h2⟩ := h.tab.set (w' := sets W g [(0, .int .i64 c.req), (1, .bool true)]) (o' := Sess.called o c) hq (fr_own (fr_own (Fr.refl _ _))) (one_called (h.tab.rows _ _ hq).1)
  exact h.kept h1 h2
/-- What a new call is answered with, if it can't be done. -/
def errA (c : Cal) (o : One) (z : Int) : Ans := fill ⟨0, 0, z, ⟨#[]⟩, false, (0, 0)⟩ c.sess (called o c)
set_option maxHeartbeats 1000000 in
set_option maxRecDepth 100000 in
theorem take_next_err (h : Tab w B gt ba bo ss of) (c : Cal) (hn : OkI c.sess) (h0 : 0 ≤ c.sess) {g : Nat} {o : One} (hq : getM ss c.sess = some (g, o)) (hr : c.req ≠ o.req) (hb : o.busy = false) (hp : c.req = IntKind.i64.wrap (o.req + 1)) (hks : c.key.size ≤ 9223372036854775807) (hvs : c.val.size ≤ 9223372036854775807) {z : Int} (hz : checkZ o.op c = z) (hz0 : z ≠ 0) :
    Calls Try.prog 9 #[.pointer (some ⟨gt, 0, none⟩), calV c] w fun e w' => e = .returned (.tuple #[.int .i64 1, ansV (errA c o z), tidV (0, 0)]) ∧ Tab w' B gt ba bo (setM ss c.sess (g, done (called o c) (errA c o z))) of ∧ Kp B w w' := by
  have hfr := frm_new w c
  obtain ⟨X, hX⟩ : ∃ X, X = (((w.alloc (calR c)).alloc (ansR zeroA)).alloc (tidR (0, 0))).alloc (ansR (badA c)) := ⟨_, rfl⟩
  rw [← hX] at hfr
  have hpt : Pt w X c B gt ba bo ss of := ⟨hfr, h.below hfr.below⟩
  have hlook := hpt.look hn
  rw [hq] at hlook
  simp only [Option.map_some] at hlook
  have hgl : g < w.heap.size := lt_size (h.rows _ _ hq).1
  obtain ⟨cs, cr, ck, ckey, cval⟩ := c
  have HP := Lib.hid hpt
  unfold calR ansR tidR zeroA badA at hX
  dsimp only at hX hlook hn h0
  have HX := Lib.hid hX
  have HB := Lib.hid h.size
  clear hX hfr hpt h
  unfold calV
  go_enter Try.func9, Try.ntmps9
  go_upto_region 2 with fail
  rw [← HX.out]
  clear HX
  obtain ⟨f0, f1, f2, f3, f4⟩ := cal_cells HP.out.frm.call
  obtain ⟨t0, t1⟩ := tab_cells HP.out.tab
  dsimp only at f0 f1 f2 f3 f4
  dsimp only at hks hvs
  have HZZ := Lib.hid hz
  have HPP := Lib.hid hp
  clear hp
  have hzb : (z == 0) = false := by simp [hz0]
  clear hz0 hz
  go_upto_region 4 with fail
  go_quiet (fail)
  generalize hW1 : X.drewN nq = W1
  have HPW1 : Hid (Pt w W1 _ B gt ba bo ss of) := Lib.hid (hW1 ▸ HP.out.drewN nq)
  clear f0 f1 f2 f3 f4 t0 t1 hlook
  obtain ⟨o0, o1, o2, o3, o4, _⟩ := one_cells (HPW1.out.row hq)
  obtain ⟨f0, f1, f2, f3, f4⟩ := cal_cells HPW1.out.frm.call
  dsimp only at f0 f1 f2 f3 f4
  have hr1 : (cr == o.req) = false := by simp [show ¬ cr = o.req from hr]
  rw [hb] at o1
  go_wp2_with fail
  go_quiet (fail)
  generalize hW2 : W1.drewN nq = W2
  have HPW2 : Hid (Pt w W2 _ B gt ba bo ss of) := Lib.hid (hW2 ▸ HPW1.out.drewN nq)
  clear o0 o1 o2 o3 o4 f0 f1 f2 f3 f4
  obtain ⟨o0, o1, o2, o3, o4, _⟩ := one_cells (HPW2.out.row hq)
  obtain ⟨f0, f1, f2, f3, f4⟩ := cal_cells HPW2.out.frm.call
  dsimp only at f0 f1 f2 f3 f4
  rw [hb] at o1
  go_wp2_with fail
  go_quiet (fail)
  generalize hW3 : W2.drewN nq = W3
  have HPW3 : Hid (Pt w W3 _ B gt ba bo ss of) := Lib.hid (hW3 ▸ HPW2.out.drewN nq)
  clear o0 o1 o2 o3 o4 f0 f1 f2 f3 f4
  obtain ⟨o0, o1, o2, o3, o4, _⟩ := one_cells (HPW3.out.row hq)
  obtain ⟨f0, f1, f2, f3, f4⟩ := cal_cells HPW3.out.frm.call
  dsimp only at f0 f1 f2 f3 f4
  rw [hb] at o1
  obtain ⟨nx, hnx⟩ : ∃ nx, nx = IntKind.i64.wrap (o.req + 1) := ⟨_, rfl⟩
  have hw : IntKind.i64.wrap (o.req + 1) = nx := hnx.symm
  have hw64 : wrap64 (o.req + 1) = nx := by rw [hnx, IntKind.wrap_i64]; unfold wrap64; omega
  have hp9 : cr = nx := by rw [hnx]; exact HPP.out
  clear hnx
  have hp1 : (cr == nx) = true := by simp [hp9]
  have hp2 : (cr != nx) = false := by simp [hp9]
  clear hp9
  go_wp2_with fail
  go_quiet (fail)
  generalize hW4 : W3.drewN nq = W4
  have HPW4 : Hid (Pt w W4 _ B gt ba bo ss of) := Lib.hid (hW4 ▸ HPW3.out.drewN nq)
  clear o0 o1 o2 o3 o4 f0 f1 f2 f3 f4 hw hw64 hp1 hp2 hr1 hr
  have HPQ := Lib.hid (HPW4.out.q HB.out)
  have HQQ : Hid (getM ss (Cal.mk cs cr ck ckey cval).sess = some (g, o)) := Lib.hid hq
  clear hq hb
  go_upto_region 16 with fail
  obtain ⟨W5, hW5, hp5⟩ := HPQ.out.called HQQ.out
  try dsimp only at hW5
  have HP5 := Lib.hid hp5
  have HQ5 : Hid (getM (setM ss cs (g, called o ⟨cs, cr, ck, ckey, cval⟩)) cs = some (g, called o ⟨cs, cr, ck, ckey, cval⟩)) := Lib.hid (getM_set_same _ _ _)
  have HW5 := Lib.hid hW5
  obtain ⟨f0, f1, f2, f3, f4⟩ := cal_cells HPQ.out.call
  dsimp only at f0 f1 f2 f3 f4
  obtain ⟨o0, o1, o2, o3, o4, _, _, _, _, _, _, _, of_⟩ := one_cells (HPQ.out.tab.rows _ _ HQQ.out).1
  try dsimp only at o0 o1 o2 o3 o4 of_
  clear hW5 hp5
  go_upto_region 17 with fail
  rw [← HW5.out]
  clear HW5 f0 f1 f2 f3 f4 o0 o1 o2 o3 o4 of_
  obtain ⟨f0, f1, f2, f3, f4⟩ := cal_cells HP5.out.call
  dsimp only at f0 f1 f2 f3 f4
  have hck := check_any W5 (HP5.out.tab.rows _ _ HQ5.out).1 ⟨cs, cr, ck, ckey, cval⟩ hks hvs
  unfold calV at hck
  rw [show (called o ⟨cs, cr, ck, ckey, cval⟩).op = o.op from rfl] at hck
  dsimp only at hck
  rw [show checkZ o.op ⟨cs, cr, ck, ckey, cval⟩ = z from HZZ.out] at hck
  have HCK := Lib.hid hck
  clear hck
  go_wp2_with fail
  refine HCK.out.mono ?_
  rintro e W6 ⟨rfl, hb6⟩
  have HP6 := Lib.hid (HP5.out.below hb6)
  clear hb6 f0 f1 f2 f3 f4 HCK HP5
  obtain ⟨f0, f1, f2, f3, f4⟩ := cal_cells HP6.out.call
  dsimp only at f0 f1 f2 f3 f4
  have hsay := say_any HP6.out.tab hn HQ5.out ⟨0, 0, z, ⟨#[]⟩, false, (0, 0)⟩
  obtain ⟨a9, ha9⟩ : ∃ a9, a9 = errA ⟨cs, cr, ck, ckey, cval⟩ o z := ⟨_, rfl⟩
  have e9 : fill ⟨0, 0, z, ⟨#[]⟩, false, (0, 0)⟩ cs (called o ⟨cs, cr, ck, ckey, cval⟩) = a9 := by rw [ha9]; rfl
  rw [e9] at hsay
  have HA9 := Lib.hid ha9
  clear e9 ha9
  unfold ansV at hsay
  dsimp only at hsay
  have HSAY := Lib.hid hsay
  clear hsay
  go_wp2_with fail
  refine HSAY.out.mono ?_
  rintro e W7 ⟨rfl, ht7, hk7⟩
  have HP7 := Lib.hid (HP6.out.kept ht7 hk7)
  clear ht7 hk7 f0 f1 f2 f3 f4 HSAY
  obtain ⟨z0, z1, z2, z3, z4, z5, z6, zf⟩ := ans_cells HP7.out.ans
  obtain ⟨y0, y1, yf⟩ := tid_cells HP7.out.tid
  obtain ⟨V, hV, hVa, hVt, hT, hK⟩ := HP7.out.out a9 (0, 0)
  try dsimp only at hV
  have HV := Lib.hid hV
  rw [setM_set] at hT
  clear hV
  go_wp2_with fail
  rw [← HV.out]
  refine bodyPost_ret (results_tmp_row_row rfl _ V hVa hVt rfl rfl Try.underlying34 rfl rfl Try.underlying25 rfl rfl) rfl ?_
  rw [← HA9.out]
  exact ⟨rfl, hT, hK⟩
set_option maxHeartbeats 1000000 in
set_option maxRecDepth 100000 in
theorem take_next_ok (h : Tab w B gt ba bo ss of) (c : Cal) (hn : OkI c.sess) (h0 : 0 ≤ c.sess) {g : Nat} {o : One} (hq : getM ss c.sess = some (g, o)) (hr : c.req ≠ o.req) (hb : o.busy = false) (hp : c.req = IntKind.i64.wrap (o.req + 1)) (hks : c.key.size ≤ 9223372036854775807) (hvs : c.val.size ≤ 9223372036854775807) {z : Int} (hz0 : z = 0) (hz : checkZ o.op c = z) :
    Calls Try.prog 9 #[.pointer (some ⟨gt, 0, none⟩), calV c] w fun e w' => e = .returned (.tuple #[.int .i64 3, ansV zeroA, tidV o.tid]) ∧ Tab w' B gt ba bo (setM ss c.sess (g, called o c)) of ∧ Kp B w w' := by
  have hfr := frm_new w c
  obtain ⟨X, hX⟩ : ∃ X, X = (((w.alloc (calR c)).alloc (ansR zeroA)).alloc (tidR (0, 0))).alloc (ansR (badA c)) := ⟨_, rfl⟩
  rw [← hX] at hfr
  have hpt : Pt w X c B gt ba bo ss of := ⟨hfr, h.below hfr.below⟩
  have hlook := hpt.look hn
  rw [hq] at hlook
  simp only [Option.map_some] at hlook
  have hgl : g < w.heap.size := lt_size (h.rows _ _ hq).1
  obtain ⟨cs, cr, ck, ckey, cval⟩ := c
  have HP := Lib.hid hpt
  unfold calR ansR tidR zeroA badA at hX
  dsimp only at hX hlook hn h0
  have HX := Lib.hid hX
  have HB := Lib.hid h.size
  clear hX hfr hpt h
  unfold calV
  go_enter Try.func9, Try.ntmps9
  go_upto_region 2 with fail
  rw [← HX.out]
  clear HX
  obtain ⟨f0, f1, f2, f3, f4⟩ := cal_cells HP.out.frm.call
  obtain ⟨t0, t1⟩ := tab_cells HP.out.tab
  dsimp only at f0 f1 f2 f3 f4
  dsimp only at hks hvs
  have HZZ := Lib.hid hz
  have HPP := Lib.hid hp
  clear hp
  subst hz0
  clear hz
  go_upto_region 4 with fail
  go_quiet (fail)
  generalize hW1 : X.drewN nq = W1
  have HPW1 : Hid (Pt w W1 _ B gt ba bo ss of) := Lib.hid (hW1 ▸ HP.out.drewN nq)
  clear f0 f1 f2 f3 f4 t0 t1 hlook
  obtain ⟨o0, o1, o2, o3, o4, _⟩ := one_cells (HPW1.out.row hq)
  obtain ⟨f0, f1, f2, f3, f4⟩ := cal_cells HPW1.out.frm.call
  dsimp only at f0 f1 f2 f3 f4
  have hr1 : (cr == o.req) = false := by simp [show ¬ cr = o.req from hr]
  rw [hb] at o1
  go_wp2_with fail
  go_quiet (fail)
  generalize hW2 : W1.drewN nq = W2
  have HPW2 : Hid (Pt w W2 _ B gt ba bo ss of) := Lib.hid (hW2 ▸ HPW1.out.drewN nq)
  clear o0 o1 o2 o3 o4 f0 f1 f2 f3 f4
  obtain ⟨o0, o1, o2, o3, o4, _⟩ := one_cells (HPW2.out.row hq)
  obtain ⟨f0, f1, f2, f3, f4⟩ := cal_cells HPW2.out.frm.call
  dsimp only at f0 f1 f2 f3 f4
  rw [hb] at o1
  go_wp2_with fail
  go_quiet (fail)
  generalize hW3 : W2.drewN nq = W3
  have HPW3 : Hid (Pt w W3 _ B gt ba bo ss of) := Lib.hid (hW3 ▸ HPW2.out.drewN nq)
  clear o0 o1 o2 o3 o4 f0 f1 f2 f3 f4
  obtain ⟨o0, o1, o2, o3, o4, _⟩ := one_cells (HPW3.out.row hq)
  obtain ⟨f0, f1, f2, f3, f4⟩ := cal_cells HPW3.out.frm.call
  dsimp only at f0 f1 f2 f3 f4
  rw [hb] at o1
  obtain ⟨nx, hnx⟩ : ∃ nx, nx = IntKind.i64.wrap (o.req + 1) := ⟨_, rfl⟩
  have hw : IntKind.i64.wrap (o.req + 1) = nx := hnx.symm
  have hw64 : wrap64 (o.req + 1) = nx := by rw [hnx, IntKind.wrap_i64]; unfold wrap64; omega
  have hp9 : cr = nx := by rw [hnx]; exact HPP.out
  clear hnx
  have hp1 : (cr == nx) = true := by simp [hp9]
  have hp2 : (cr != nx) = false := by simp [hp9]
  clear hp9
  go_wp2_with fail
  go_quiet (fail)
  generalize hW4 : W3.drewN nq = W4
  have HPW4 : Hid (Pt w W4 _ B gt ba bo ss of) := Lib.hid (hW4 ▸ HPW3.out.drewN nq)
  clear o0 o1 o2 o3 o4 f0 f1 f2 f3 f4 hw hw64 hp1 hp2 hr1 hr
  have HPQ := Lib.hid (HPW4.out.q HB.out)
  have HQQ : Hid (getM ss (Cal.mk cs cr ck ckey cval).sess = some (g, o)) := Lib.hid hq
  clear hq hb
  go_upto_region 16 with fail
  obtain ⟨W5, hW5, hp5⟩ := HPQ.out.called HQQ.out
  try dsimp only at hW5
  have HP5 := Lib.hid hp5
  have HQ5 : Hid (getM (setM ss cs (g, called o ⟨cs, cr, ck, ckey, cval⟩)) cs = some (g, called o ⟨cs, cr, ck, ckey, cval⟩)) := Lib.hid (getM_set_same _ _ _)
  have HW5 := Lib.hid hW5
  obtain ⟨f0, f1, f2, f3, f4⟩ := cal_cells HPQ.out.call
  dsimp only at f0 f1 f2 f3 f4
  obtain ⟨o0, o1, o2, o3, o4, _, _, _, _, _, _, _, of_⟩ := one_cells (HPQ.out.tab.rows _ _ HQQ.out).1
  try dsimp only at o0 o1 o2 o3 o4 of_
  clear hW5 hp5
  go_upto_region 17 with fail
  rw [← HW5.out]
  clear HW5 f0 f1 f2 f3 f4 o0 o1 o2 o3 o4 of_
  obtain ⟨f0, f1, f2, f3, f4⟩ := cal_cells HP5.out.call
  dsimp only at f0 f1 f2 f3 f4
  have hck := check_any W5 (HP5.out.tab.rows _ _ HQ5.out).1 ⟨cs, cr, ck, ckey, cval⟩ hks hvs
  unfold calV at hck
  rw [show (called o ⟨cs, cr, ck, ckey, cval⟩).op = o.op from rfl] at hck
  dsimp only at hck
  rw [show checkZ o.op ⟨cs, cr, ck, ckey, cval⟩ = 0 from HZZ.out] at hck
  have HCK := Lib.hid hck
  clear hck
  go_wp2_with fail
  refine HCK.out.mono ?_
  rintro e W6 ⟨rfl, hb6⟩
  have HP6 := Lib.hid (HP5.out.below hb6)
  clear hb6 f0 f1 f2 f3 f4 HCK HP5
  obtain ⟨f0, f1, f2, f3, f4⟩ := cal_cells HP6.out.call
  dsimp only at f0 f1 f2 f3 f4
  have HS : Hid (∀ V, Fr (fun k => k = w.heap.size + 1 ∨ k = w.heap.size + 1 + 1) W6 V → V.cell? ⟨g, 2, none⟩ = some (.int .u64 o.tid.1) ∧ V.cell? ⟨g, 3, none⟩ = some (.int .i64 o.tid.2)) := fun V hf => HP6.out.tidS (o := called o ⟨cs, cr, ck, ckey, cval⟩) HQ5.out hf
  obtain ⟨s0, s1⟩ := HS.out _ (Fr.refl _ _)
  obtain ⟨z0, z1, z2, z3, z4, z5, z6, zf⟩ := ans_cells HP6.out.ans
  obtain ⟨y0, y1, yf⟩ := tid_cells HP6.out.tid
  clear f0 f1 f2 f3 f4
  go_upto_region 20 with fail
  go_region_held3 (fun V => V.cell? ⟨g, 2, none⟩ = some (.int .u64 o.tid.1) ∧ V.cell? ⟨g, 3, none⟩ = some (.int .i64 o.tid.2))
    ((refine HS.out _ ?_; repeat (first | with_reducible exact Fr.refl _ _ | with_reducible refine Fr.drew ?_ | with_reducible refine fr_at1 ?_ | with_reducible refine fr_at2 ?_)))
    (fail)
  obtain ⟨V, hV, hVa, hVt, hT, hK⟩ := HP6.out.out zeroA o.tid
  dsimp only [zeroA] at hV
  rw [← hV]
  clear hV
  rename_i hheld
  clear hheld
  go_wp2_with fail
  refine bodyPost_ret (results_tmp_row_row rfl _ V.drew hVa hVt rfl rfl Try.underlying34 rfl rfl Try.underlying25 rfl rfl) rfl ?_
  exact ⟨rfl, hT.drewN 1, hK.drew⟩
#print axioms take_next_ok
end Go.Proofs.Ytffjkdeggkppnaa.Sess
