/- next: a key given to those who wait, as many as can have it. -/
import Derived.Test.YtcceankldiafpaaLockG
set_option linter.unusedVariables false
set_option linter.unusedSimpArgs false
set_option linter.unusedSectionVars false
set_option maxRecDepth 100000
namespace Go.Proofs.Ytcceankldiafpaa.Lock
open Go.RowKit Go.WideShapes Go.Deep Go.Proofs.Ytcceankldiafpaa.Mem Go.Proofs.Ytcceankldiafpaa.Open Go.Proofs.Ytcceankldiafpaa.Maps
abbrev Gr := Wt × S
def Gr.cs (g : Gr) : List Value := [.int .u64 g.1.num, .int .i64 g.1.nd, .string g.2, .int .i64 g.1.md]
def gc (gs : List Gr) : List Value := gs.flatMap Gr.cs
theorem gc_len : ∀ gs : List Gr, (gc gs).length = gs.length * 4
  | [] => rfl
  | t :: gs => by
    show (Gr.cs t ++ gc gs).length = _
    rw [List.length_append, gc_len gs]
    show 4 + gs.length * 4 = (gs.length + 1) * 4
    omega
theorem gc_append (a b : List Gr) : gc (a ++ b) = gc a ++ gc b := by simp [gc]
theorem gc_one (gs : List Gr) : One (gc gs) := by
  intro u hu
  simp only [gc, List.mem_flatMap] at hu
  obtain ⟨t, _, hu⟩ := hu
  simp only [Gr.cs, List.mem_cons, List.not_mem_nil, or_false] at hu
  rcases hu with rfl | rfl | rfl | rfl <;> rfl
theorem tyG : Ty Try.prog 35 4 40 (.agg #[.int .u64 0, .int .i64 0, .string ⟨#[]⟩, .int .i64 0]) := Ty.of (by kernel_rfl) rfl
theorem gr_wt : (35 : TypeId) ≠ 47 := by decide
theorem gr_q : (35 : TypeId) ≠ 68 := by decide
def GOwn (w' : World) (B : Nat) (v : Value) (gs : List Gr) : Prop := Own w' B 35 4 v gs.length (gc gs)
theorem GOwn.form {w : World} {B : Nat} {v : Value} {gs : List Gr} (h : GOwn w B v gs) : ∃ A c, v = .slice A gs.length c := by
  obtain ⟨A, c, e, _⟩ := Own.slice_ h
  exact ⟨A, c, e⟩
theorem app_gr {W : World} {B : Nat} {v : Value} {gs ns : List Gr} (ho : GOwn W B v gs) (hB : B ≤ W.heap.size) {A : Option Addr} {m c : Nat} (hl : m = ns.length) (hr : Rd W W.heap.size 4 (.slice A m c) m (gc ns)) (hlim : gs.length + m ≤ 1000000) (t : TypeId) :
    Does Try.prog W (Builtin.append_ #[32, 32] t #[v, .slice A m c]) fun v' w' => GOwn w' B v' (gs ++ ns) ∧ Fr (fun g => v.ownBlock = some g) W w' := by
  obtain ⟨v', w', hrun, ho', hg, hbl, _⟩ := run_append (P := Try.prog) W (ty := t) Try.underlying32 Try.underlying32 tyG ho (A := A) (m := m) (c := c) (news := gc ns) (by rw [gc_len, hl])
    (fun h0 => by
      obtain ⟨g, off, cc, e, _, _, _, hx⟩ := hr.cells h0
      injection e with e1 _ _
      exact ⟨g, off, e1, hx⟩) (gc_one ns) (by unfold maxLen; omega) (by omega) hB
  refine ⟨v', w', hrun, ?_, Fr.of_grown hg (fun g e => e)⟩
  unfold GOwn
  rw [List.length_append, gc_append, ← hl]
  exact ho'
theorem rd_gr (X : World) (t : Wt) (k : S) : Rd (X.alloc (.cells #[.int .u64 t.num, .int .i64 t.nd, .string k, .int .i64 t.md] 35)) (X.alloc (.cells #[.int .u64 t.num, .int .i64 t.nd, .string k, .int .i64 t.md] 35)).heap.size 4 (.slice (some ⟨X.heap.size, 0, none⟩) 1 1) 1 (gc [(t, k)]) :=
  ⟨rfl, _, 1, rfl, Nat.le_refl _, by unfold maxLen; omega, fun _ => ⟨X.heap.size, 0, rfl, by simp, fun j u hu => by
    rw [Nat.zero_add, cell_of_row _ _ _ _ _ _ (heap_alloc_new X _)]
    rw [show gc [(t, k)] = Gr.cs (t, k) by simp [gc]] at hu
    simpa [Gr.cs] using hu⟩⟩
/-- No block of the grants' is one of a queue's. -/
theorem gown_feet {w : World} {B b : Nat} {q : Qv} {v : Value} {gs : List Gr} (hQ : QAt w B q) (hg : GOwn w b v gs) {g : Nat} (h : v.ownBlock = some g) : ¬ Feet q g := fun hx => by
  rcases hg.2 with ⟨h0, _⟩ | ⟨g', off, cap, cur, h0, _, hg', _⟩
  · rw [h0] at h; cases h
  · rw [h0] at h
    injection h with h
    subst h
    exact not_feet_row hQ hg' gr_wt gr_q hx
theorem own_tail {w : World} {B g off n c : Nat} {t : Wt} {ws : List Wt} (h : Own w B 47 3 (.slice (some ⟨g, off, none⟩) (n + 1) c) (n + 1) (wc (t :: ws))) (hn : n = ws.length) : Own w B 47 3 (.slice (some ⟨g, if c = 1 then off else off + 3, none⟩) n (c - 1)) n (wc ws) := by
  refine ⟨by rw [wc_len, hn], ?_⟩
  rcases h.2 with ⟨h0, _⟩ | ⟨g', off', cap', cur, h0, hbg, hg, hnc, hcm, hcs, htake⟩
  · cases h0
  · injection h0 with h0 _ h2
    injection h0 with h0
    injection h0 with h0 h3 _
    subst h0 h3 h2
    by_cases hc : c = 1
    · have hw : ws = [] := List.eq_nil_of_length_eq_zero (by omega)
      subst hw
      refine .inr ⟨g, off, c - 1, cur, by rw [if_pos hc], hbg, hg, by omega, by omega, by omega, ?_⟩
      rw [show n = 0 by simpa using hn]
      simp [wc]
    · refine .inr ⟨g, off + 3, c - 1, cur, by rw [if_neg hc], hbg, hg, by omega, by omega, by omega, ?_⟩
      have e : wc (t :: ws) = t.cs ++ wc ws := rfl
      rw [e] at htake
      have h9 := congrArg (List.drop 3) htake
      rw [List.drop_take, List.drop_drop, show (t.cs ++ wc ws).drop 3 = wc ws from rfl] at h9
      rw [show (n + 1) * 3 - 3 = n * 3 by omega] at h9
      exact h9
def free1 (has : List Wt) (t : Wt) : List Wt := has.filter fun u => !sameT u t.tid && against u.md t.md
/-- What next makes of a queue: who has it, who waits; who is granted it. -/
def nextL : List Wt → List Wt → Line × List Wt
  | has, [] => ((has, []), [])
  | has, t :: ws => if free1 has t = [] then ((nextL (giveL has t) ws).1, t :: (nextL (giveL has t) ws).2) else ((has, t :: ws), [])
def grs (k : S) (ws : List Wt) : List Gr := ws.map fun t => (t, k)
def NextR (w : World) (B : Nat) (q : Qv) (k : S) (r : Line × List Wt) (e : Ending) (w' : World) : Prop := ∃ v, e = .returned v ∧ GOwn w' w.heap.size v (grs k r.2) ∧ ∃ hv' wv', QGo w w' B q ⟨q.qb, hv', wv', r.1.1, r.1.2⟩
theorem QGo.then_fr {w w' w2 : World} {B : Nat} {q q' : Qv} {S' : Nat → Prop} (h : QGo w w' B q q') (hf : Fr S' w' w2) (hS : ∀ g, S' g → w.heap.size ≤ g) (hn : ∀ g, Feet q' g → ¬ S' g) : QGo w w2 B q q' :=
  ⟨h.at_.fr hf hn, h.same, h.fr.trans hf fun i hi hs => by have := hS i hs; omega, h.feet⟩
theorem grs_snoc (k : S) (gs : List Wt) (t : Wt) : grs k gs ++ [(t, k)] = grs k (gs ++ [t]) := by simp [grs]
theorem grs_len (k : S) (gs : List Wt) : (grs k gs).length = gs.length := by simp [grs]
def lenV : Value → Nat
  | .slice _ n _ => n
  | _ => 0
set_option maxHeartbeats 8000000 in
theorem next_any {w : World} {B : Nat} {q : Qv} (h : QAt w B q) (k : S) (hlim : q.has.length + q.waits.length ≤ 50000) :
    Calls Try.prog 38 #[.pointer (some ⟨q.qb, 0, none⟩), .string k] w (NextR w B q k (nextL q.has q.waits)) := by
  obtain ⟨r, hr⟩ : ∃ r, r = nextL q.has q.waits := ⟨_, rfl⟩
  rw [← hr]
  have HR := Lib.hid hr
  have H := Lib.hid h
  obtain ⟨nw0, hnw0⟩ : ∃ n, n = q.waits.length := ⟨_, rfl⟩
  have HNW0 := Lib.hid hnw0
  have HLIM := Lib.hid hlim
  obtain ⟨q0, hq0⟩ : ∃ n, n = q.qb := ⟨_, rfl⟩
  rw [← hq0]
  have HQ0 := Lib.hid hq0
  clear h hr hnw0 hlim hq0
  go_enter Try.func38, Try.ntmps38
  go_wp2_with fail
  go_loopw [5] (fun v5 wr => ∃ (gs has waits : List Wt) (hv wv : Value), GOwn wr w.heap.size v5 (grs k gs) ∧ gs.length + waits.length = nw0 ∧ QGo w wr B q ⟨q0, hv, wv, has, waits⟩ ∧ r.1 = (nextL has waits).1 ∧ r.2 = gs ++ (nextL has waits).2 ∧ has.length + waits.length ≤ 50000) (fun v5 _ => nw0 - lenV v5)
  case atStart => exact ⟨[], q.has, q.waits, q.hv, q.wv, Own.nil_ _ _ _ _, by rw [HNW0.out]; simp, by rw [HQ0.out]; exact QGo.refl H.out, by rw [HR.out], by rw [HR.out]; simp, HLIM.out⟩
  case round =>
    obtain ⟨gs, has, waits, hv, wv, hgo, hcnt, hq, hr1, hr2, hle⟩ := hrel
    obtain ⟨A5, c5, rfl⟩ := hgo.form
    have HGO := Lib.hid hgo
    have HCNT := Lib.hid hcnt
    have HQG := Lib.hid hq
    have HR1 := Lib.hid hr1
    have HR2 := Lib.hid hr2
    have HLE := Lib.hid hle
    have hsz := hq.fr.size
    obtain ⟨Aw, cw, ewv, hcw, hcm⟩ := hq.at_.wt.slice_
    dsimp only at ewv hcw
    subst ewv
    unfold maxLen at hcm
    obtain ⟨ng, hng⟩ : ∃ n, n = (grs k gs).length := ⟨_, rfl⟩
    rw [← hng]
    have HNG := Lib.hid hng
    clear hgo hcnt hq hr1 hr2 hle hng
    cases waits with
    | nil =>
      obtain ⟨s0, s1⟩ := HQG.out.at_.cells
      dsimp only [List.length_nil] at s0 s1
      go_wp2_with fail
      go_ret
      have e1 := HR1.out
      have e2 := HR2.out
      unfold nextL at e1 e2
      rw [List.append_nil] at e2
      refine ⟨_, rfl, ?_, hv, .slice Aw 0 cw, ?_⟩
      · rw [e2, HNG.out]; exact HGO.out
      · rw [e1, ← HQ0.out]; exact HQG.out
    | cons t ws =>
      obtain ⟨nws, hnws⟩ : ∃ n, n = ws.length := ⟨_, rfl⟩
      have HNWS := Lib.hid hnws
      obtain ⟨s0, s1⟩ := HQG.out.at_.cells
      dsimp only [List.length_cons] at s0 s1 hcw
      rw [← hnws] at s1 hcw
      obtain ⟨gw, offw, rfl, _, c0, c1, c2⟩ := want_cells (HQG.out.at_.wt.rd) (j := 0) (t := t) rfl (by simp)
      simp only [Nat.zero_mul, Nat.add_zero] at c0 c1 c2
      clear hnws
      have i1 : (0 : Int) < ((nws + 1 : Nat) : Int) := by omega
      go_upto_region 4 with fail
      obtain ⟨gy, hgy⟩ : ∃ g, g = wr.heap.size := ⟨_, rfl⟩
      obtain ⟨Y, hY⟩ : ∃ Y, Y = wr.alloc (.cells #[.int .u64 t.num, .int .i64 t.nd, .int .i64 t.md] 47) := ⟨_, rfl⟩
      rw [← hY, ← hgy]
      have HYB : Hid (Below wr.heap.size wr Y) := Lib.hid (by rw [hY]; exact (Below.refl _ _).alloc (Nat.le_refl _) _)
      have HYG : Hid (QGo w Y B q ⟨q0, hv, .slice (some ⟨gw, offw, none⟩) (t :: ws).length cw, has, t :: ws⟩) := Lib.hid (HQG.out.trans (QGo.of_below HQG.out.at_ HYB.out))
      have HYO : Hid (GOwn Y w.heap.size (.slice A5 ng c5) (grs k gs)) := Lib.hid (by rw [HNG.out]; exact Own.below HGO.out HYB.out)
      have HYT : Hid (Y.heap[gy]? = some (.cells #[.int .u64 t.num, .int .i64 t.nd, .int .i64 t.md] 47 (0, 0))) := Lib.hid (by rw [hY, hgy]; exact heap_alloc_new wr _)
      obtain ⟨d0, d1, d2⟩ := row3c HYT.out
      obtain ⟨fr, hfr⟩ : ∃ l, l = free1 has t := ⟨_, rfl⟩
      obtain ⟨nf, hnf⟩ : ∃ n, n = fr.length := ⟨_, rfl⟩
      have hle := HLE.out
      rw [List.length_cons] at hle
      have HBK : Hid (Calls Try.prog 30 #[.pointer (some ⟨q0, 0, none⟩), .agg #[.int .u64 t.num, .int .i64 t.nd], .int .i64 t.md, .int .i64 0] Y fun e w' => ∃ v', e = .returned v' ∧ (∃ A c, v' = .slice A nf c) ∧ Below Y.heap.size Y w') := Lib.hid (by
        refine (blocks_any HYG.out.at_ (t.num, t.nd) t.md (place := 0) (Nat.zero_le _) (by dsimp only; rw [List.length_cons]; omega)).mono ?_
        rintro e w' ⟨v', he, ho, hb'⟩
        have e2 : blockL ⟨q0, hv, .slice (some ⟨gw, offw, none⟩) (t :: ws).length cw, has, t :: ws⟩ (t.num, t.nd) t.md 0 = fr := by
          rw [hfr]
          unfold blockL free1
          rw [List.take_zero, List.append_nil]
          rfl
        rw [e2, ← hnf] at ho
        obtain ⟨A, c, e3, _⟩ := ho.slice_
        exact ⟨v', he, ⟨A, c, e3⟩, hb'⟩)
      have HFR := Lib.hid hfr
      have HNF := Lib.hid hnf
      have HFG : Hid (∀ g, Feet ⟨q0, hv, .slice (some ⟨gw, offw, none⟩) (t :: ws).length cw, has, t :: ws⟩ g → g < gy) := Lib.hid (fun g hg => by rw [hgy]; exact (HQG.out.at_.feet hg).2)
      have HGYS : Hid (w.heap.size ≤ gy) := Lib.hid (by rw [hgy]; exact hsz)
      clear hY hgy hfr hnf s0 s1 c0 c1 c2
      by_cases hz : nf = 0
      rotate_left
      · have hz1 : (0 : Int) < (nf : Int) := by omega
        have hne : ¬ free1 has t = [] := fun e => hz (by rw [HNF.out, HFR.out, e]; rfl)
        have HNE := Lib.hid hne
        clear hne hz
        go_wp2_with (go_at_call 30; refine HBK.out.mono ?_; rintro e w2 ⟨v2, rfl, ⟨A2, c2', rfl⟩, hb2⟩; have HB2 := Lib.hid hb2; clear hb2)
        go_ret
        have e1 := HR1.out
        have e2 := HR2.out
        unfold nextL at e1 e2
        rw [if_neg HNE.out] at e1 e2
        rw [List.append_nil] at e2
        refine ⟨_, rfl, ?_, hv, .slice (some ⟨gw, offw, none⟩) (t :: ws).length cw, ?_⟩
        · rw [e2]; exact Own.below HYO.out HB2.out
        · rw [e1, ← HQ0.out]; exact HYG.out.trans (QGo.of_below HYG.out.at_ HB2.out)
      · have hem : free1 has t = [] := by rw [← HFR.out]; exact List.eq_nil_of_length_eq_zero (by rw [← HNF.out]; exact hz)
        have HEM := Lib.hid hem
        subst hz
        clear hem
        go_upto_region 5 with (go_at_call 30; refine HBK.out.mono ?_; rintro e w2 ⟨v2, rfl, ⟨A2, c2', rfl⟩, hb2⟩; have HB2 := Lib.hid hb2; clear hb2)
        have HG2 : Hid (QGo w w2 B q ⟨q0, hv, .slice (some ⟨gw, offw, none⟩) (t :: ws).length cw, has, t :: ws⟩) := Lib.hid (HYG.out.trans (QGo.of_below HYG.out.at_ HB2.out))
        have HO2 : Hid (GOwn w2 w.heap.size (.slice A5 ng c5) (grs k gs)) := Lib.hid (Own.below HYO.out HB2.out)
        have HT2 := Lib.hid (blk_below HYT.out HB2.out)
        clear d0 d1 d2 HBK
        obtain ⟨s0, s1⟩ := HG2.out.at_.cells
        have s2 := HG2.out.at_.free 1
        dsimp only [List.length_cons] at s0 s1 s2
        rw [← HNWS.out] at s1
        have hown := HG2.out.at_.wt
        dsimp only [List.length_cons] at hown
        rw [← HNWS.out] at hown
        have HTL := Lib.hid (own_tail hown HNWS.out)
        have HOW := Lib.hid hown
        clear hown
        have j1 : (1 : Int) ≤ ((nws + 1 : Nat) : Int) := by omega
        have j2 : ((nws + 1 : Nat) : Int) ≤ (cw : Int) := by omega
        have j3 : (1 : Int) ≤ (cw : Int) := by omega
        have hpop : Hid (∀ w3, w3 = w2.setCell ⟨q0, 1, none⟩ (.slice (some ⟨gw, if cw = 1 then offw else offw + 3, none⟩) nws (cw - 1)) → QGo w2 w3 B ⟨q0, hv, .slice (some ⟨gw, offw, none⟩) (t :: ws).length cw, has, t :: ws⟩ ⟨q0, hv, .slice (some ⟨gw, if cw = 1 then offw else offw + 3, none⟩) nws (cw - 1), has, ws⟩) := Lib.hid (fun w3 e => by
          rw [e]
          exact HG2.out.at_.turn_w (hs := ws) HTL.out HNWS.out (fun g hg => .inl hg) (Fr.refl _ _))
        go_cut [5] from 27 to 34 (fun v5 wx => v5 = .slice A5 ng c5 ∧ ∃ ox, wx = w2.setCell ⟨q0, 1, none⟩ (.slice (some ⟨gw, ox, none⟩) nws (cw - 1)) ∧ ox = if cw = 1 then offw else offw + 3)
        case first =>
          by_cases hc1 : cw = 1
          · subst hc1
            obtain rfl : nws = 0 := by omega
            go_wp2_with fail
            go_meet
            case rel => exact ⟨rfl, _, rfl, rfl⟩
          · go_wp2_with fail
            go_meet
            case rel => exact ⟨rfl, _, rfl, by rw [if_neg hc1]⟩
        case rest =>
          obtain ⟨rfl, ox, hw3, hox⟩ := hcut
          obtain ⟨w3, e3⟩ : ∃ w3, w3 = wc := ⟨_, rfl⟩
          rw [← e3] at hw3 ⊢
          clear e3 wc
          have hq3 := hpop.out w3 (by rw [hw3, hox])
          rw [← hox] at hq3
          have hf3 : Fr (fun g => g = q0) w2 w3 := by rw [hw3]; exact (show Fr (fun g => g = q0) w2 w2 from Fr.refl _ _).setCell (p := ⟨q0, 1, none⟩) (.inl rfl) _
          have HG3 := Lib.hid (HG2.out.trans hq3)
          have HO3 : Hid (GOwn w3 w.heap.size (.slice A5 ng c5) (grs k gs)) := Lib.hid (Own.fr HO2.out hf3 fun g hg e => gown_feet HG2.out.at_ HO2.out hg (.inl e))
          have HT3 := Lib.hid (hf3.blk HT2.out (fun e => by have := HFG.out q0 (.inl rfl); omega))
          have HF3 : Hid (¬ Feet ⟨q0, hv, .slice (some ⟨gw, ox, none⟩) nws (cw - 1), has, ws⟩ gy) := Lib.hid (fun hx => by
            have hlt := HFG.out gy (by
              rcases hx with e | e | e
              · exact .inl e
              · exact .inr (.inl e)
              · exact .inr (.inr e))
            omega)
          have HGV := Lib.hid (give_any HG3.out.at_ t (by dsimp only; have := HLE.out; omega))
          obtain ⟨d0, d1, d2⟩ := row3c HT3.out
          clear hw3 hox hq3 hf3 s0 s1 s2 hpop
          go_upto_region 7 with (go_at_call 31; refine HGV.out.mono ?_; rintro e w4 ⟨rfl, hv4, hg4⟩; have HG4 := Lib.hid (HG3.out.trans hg4); have HO4 : Hid (GOwn w4 w.heap.size (.slice A5 ng c5) (grs k gs)) := Lib.hid (Own.fr HO3.out hg4.fr fun g hg e => gown_feet HG3.out.at_ HO3.out hg e); have HT4 := Lib.hid (hg4.fr.blk HT3.out HF3.out); clear hg4)
          clear d0 d1 d2 HGV
          obtain ⟨d0, d1, d2⟩ := row3c HT4.out
          have hnl := HNG.out
          have hcn := HCNT.out
          have hll := HLE.out
          rw [grs_len] at hnl
          rw [List.length_cons] at hcn hll
          have HAP := Lib.hid (app_gr (W := w4.alloc (.cells #[.int .u64 t.num, .int .i64 t.nd, .string k, .int .i64 t.md] 35)) (ns := [(t, k)]) (m := 1) (c := 1) (Own.alloc HO4.out _) (by have := HG4.out.fr.size; simp; omega) rfl (rd_gr w4 t k) (by rw [grs_len]; have := HNW0.out; have := HLIM.out; omega) 32)
          go_wp2_with (at_builtin; refine wpL_append rfl _ _ 32 32 rfl rfl rfl HAP.out ?_; rintro v5 w5 ⟨ho5, hf5⟩; have HO5 := Lib.hid ho5; have HF5 := Lib.hid hf5; clear ho5 hf5)
          go_roundw
          case rel =>
            have ho := HO5.out
            rw [grs_snoc] at ho
            have hgf := fun (g : Nat) => gown_feet (g := g) (HG4.out.at_.alloc (.cells #[.int .u64 t.num, .int .i64 t.nd, .string k, .int .i64 t.md] 35)) (Own.alloc HO4.out (.cells #[.int .u64 t.num, .int .i64 t.nd, .string k, .int .i64 t.md] 35))
            have hgl := giveL_len has t
            refine ⟨gs ++ [t], giveL has t, ws, hv4, .slice (some ⟨gw, ox, none⟩) nws (cw - 1), ho, by rw [List.length_append, List.length_singleton]; omega, ((HG4.out.trans (QGo.of_below HG4.out.at_ ((Below.refl _ _).alloc (Nat.le_refl _) _))).then_fr HF5.out (fun g hg => (Own.lt HO4.out g hg).1) (fun g hg e => hgf g e hg)), ?_, ?_, by omega⟩
            · rw [HR1.out]
              conv => lhs; unfold nextL
              rw [if_pos HEM.out]
            · rw [HR2.out]
              conv => lhs; unfold nextL
              rw [if_pos HEM.out, List.append_assoc]
              rfl
          case measure =>
            obtain ⟨A6, c6, e6⟩ := GOwn.form HO5.out
            subst e6
            show nw0 - (grs k gs ++ [(t, k)]).length < nw0 - ng
            rw [List.length_append, grs_len, List.length_singleton]
            omega
#print axioms next_any
end Go.Proofs.Ytcceankldiafpaa.Lock
