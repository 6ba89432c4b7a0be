/- The maker's call, whatever stands. -/
import Derived.Test.YthkacajlbenflaaHistUp
set_option linter.unusedVariables false
set_option linter.unusedSimpArgs false
set_option linter.unusedSectionVars false
set_option maxRecDepth 100000
namespace Go.Proofs.Ythkacajlbenflaa.HistG
open Go.RowKit Go.WideShapes Go.Deep Go.Proofs.Ythkacajlbenflaa.Mem Go.Proofs.Ythkacajlbenflaa.Maps Go.Proofs.Ythkacajlbenflaa.Kv Go.Proofs.Ythkacajlbenflaa.Open Go.Proofs.Ythkacajlbenflaa.HistA
theorem MkG.drewN_ {w : World} {B gm ba bs N : Nat} {m : MkR} {pp : List ((Int × Int) × Nat)} {xs : List TxP} {av : Value} (h : MkG w B gm ba bs N m pp xs av) (n : Nat) : MkG (w.drewN n) B gm ba bs N m pp xs av := h.kept fun g _ => rfl
theorem tid0 : Tid.IdOk (0, 0) := ⟨by decide, by decide⟩
def MkX (w w' : World) (B gm ba bs N : Nat) (m : MkR) : Prop := (∃ pp xs av, MkG w' B gm ba bs N m pp xs av) ∧ Below B w w'
set_option maxHeartbeats 4000000 in
theorem call_g {w : World} {B gm ba bs N : Nat} {m : MkR} {pp : List ((Int × Int) × Nat)} {xs : List TxP} {av : Value} (h : MkG w B gm ba bs N m pp xs av) (hB : B ≤ w.heap.size) (e : EvV) (hok : PlOk (e.node, e.cs)) :
    Calls Try.prog 23 #[.pointer (some ⟨gm, 0, none⟩), .agg #[.int .i64 e.node, .int .i64 e.cs], .agg #[.int .i64 e.cs, .int .i64 e.cr, .int .i64 e.ck, .string e.ckey, .string e.cval]] w fun x w' => x = .returned (.tuple #[]) ∧ MkX w w' B gm ba bs N (callM m e) := by
  obtain ⟨X, hX⟩ : ∃ X, X = (w.alloc (.cells #[.int .i64 e.node, .int .i64 e.cs] 71)).alloc (.cells #[.int .i64 e.cs, .int .i64 e.cr, .int .i64 e.ck, .string e.ckey, .string e.cval] 26) := ⟨_, rfl⟩
  have hs1 : (w.alloc (.cells #[.int .i64 e.node, .int .i64 e.cs] 71)).heap.size = w.heap.size + 1 := by simp
  have hXB : Below w.heap.size w X := by rw [hX]; exact ((Below.refl _ _).alloc (Nat.le_refl _) _).alloc (by omega) _
  obtain ⟨gp, hgp⟩ : ∃ g, g = w.heap.size := ⟨_, rfl⟩
  obtain ⟨gc, hgc⟩ : ∃ g, g = w.heap.size + 1 := ⟨_, rfl⟩
  have hP : X.heap[gp]? = some (.cells #[.int .i64 e.node, .int .i64 e.cs] 71 (0, 0)) := by rw [hX, hgp]; exact (Below.heap_alloc _ _ _ (by omega)).trans (heap_alloc_new w _)
  have hC : X.heap[gc]? = some (.cells #[.int .i64 e.cs, .int .i64 e.cr, .int .i64 e.ck, .string e.ckey, .string e.cval] 26 (0, 0)) := by rw [hX, hgc, ← hs1]; exact heap_alloc_new _ _
  have HX : Hid (MkG X B gm ba bs N m pp xs av) := Lib.hid (h.below hXB)
  have HXB : Hid (Below B w X) := Lib.hid (hXB.mono hB)
  have HXS : Hid (X.heap.size = w.heap.size + 2) := Lib.hid (by rw [hX]; simp)
  have HP := Lib.hid hP
  have HC := Lib.hid hC
  have HGP := Lib.hid hgp
  have HGC := Lib.hid hgc
  have HBX : Hid (B ≤ X.heap.size) := Lib.hid (Nat.le_trans hB hXB.size)
  have hlk : ∀ n, (Instr.lookup 65 (.map (some bs)) (.agg #[.int .i64 e.node, .int .i64 e.cs]) false).run Try.prog (X.drewN n) = .ok ((getM pp (e.node, e.cs)).elim (.pointer none) enB) (X.drewN n) := fun n => run_lookup (P := Try.prog) (e := 82) (z := .pointer none) km_pl Try.underlying65 (by kernel_rfl) (HX.out.drewN_ n).sm (x := (e.node, e.cs)) hok false
  have HOK := Lib.hid hok
  obtain ⟨c0, c1, c2, _⟩ := row3_facts HX.out.mkr
  obtain ⟨p0, p1⟩ := row2c hP
  obtain ⟨k0, k1, k2, k3, k4⟩ := row5_facts hC
  clear h hP hC hXB hok hs1
  go_enter Try.func23, Try.ntmps23
  go_upto_region 1 with fail
  rw [← hX]
  rw [← hgc, ← hgp]
  clear hX hgp hgc
  cases hpp : getM pp (e.node, e.cs) with
  | none =>
    rw [hpp] at hlk
    dsimp only [Option.elim] at hlk
    have HPP := Lib.hid hpp
    have HSS : Hid (getM m.ss (e.node, e.cs) = none) := Lib.hid (HX.out.none_ _ hpp)
    clear hpp
    go_quiet (fail)
    clear hlk
    obtain ⟨V, hV⟩ : ∃ V, V = X.drewN nq := ⟨_, rfl⟩
    have HV : Hid (MkG V B gm ba bs N m pp xs av) := Lib.hid (by rw [hV]; exact HX.out.drewN_ nq)
    have HVP : Hid (V.heap[gp]? = some (.cells #[.int .i64 e.node, .int .i64 e.cs] 71 (0, 0))) := Lib.hid (by rw [hV]; exact HP.out)
    have HVC : Hid (V.heap[gc]? = some (.cells #[.int .i64 e.cs, .int .i64 e.cr, .int .i64 e.ck, .string e.ckey, .string e.cval] 26 (0, 0))) := Lib.hid (by rw [hV]; exact HC.out)
    have HVB : Hid (Below B w V) := Lib.hid (by rw [hV]; exact below_drewN HXB.out nq)
    have HVS : Hid (B ≤ V.heap.size) := Lib.hid (by rw [hV]; exact HBX.out)
    rw [← hV]
    clear hV c0 c1 c2 p0 p1 k0 k1 k2 k3 k4
    obtain ⟨c0, c1, c2, _⟩ := row3_facts HV.out.mkr
    obtain ⟨p0, p1⟩ := row2c HVP.out
    obtain ⟨k0, k1, k2, k3, k4⟩ := row5_facts HVC.out
    by_cases hcr : e.cr = 1 ∧ 0 ≤ e.cs
    · obtain ⟨hcr1, hcs0⟩ := hcr
      have e1 : (e.cr == 1) = true := by simp [hcr1]
      have HE : Hid (callM m e = { m with ss := setM m.ss (e.node, e.cs) ⟨e.cs, e.cr, e.ck, e.ckey, e.cval, true, 0, 0, false⟩ }) := Lib.hid (by unfold callM; rw [HSS.out]; dsimp only; rw [if_pos ⟨hcr1, hcs0⟩])
      obtain ⟨gn, hgn⟩ : ∃ g, g = V.heap.size := ⟨_, rfl⟩
      obtain ⟨Y, hY⟩ : ∃ Y, Y = (V.alloc (.cells #[.int .i64 e.cs, .int .i64 e.cr, .int .i64 e.ck, .string e.ckey, .string e.cval, .bool true, .int .u64 0, .int .i64 0, .bool false] 84)).drew := ⟨_, rfl⟩
      have HYB : Hid (Below V.heap.size V Y) := Lib.hid (by rw [hY]; exact ((Below.refl _ _).alloc (Nat.le_refl _) _).drew)
      have HYR : Hid (Y.heap[gn]? = some (.cells (sesRow ⟨e.cs, e.cr, e.ck, e.ckey, e.cval, true, 0, 0, false⟩) 84 (0, 0))) := Lib.hid (by rw [hY, hgn]; exact heap_alloc_new V _)
      have HY := Lib.hid (HV.out.below HYB.out)
      obtain ⟨w3, hup, hm3, ht3⟩ := run_update (P := Try.prog) km_pl Try.underlying65 HY.out.sm HOK.out gn
      have HM3 := Lib.hid hm3
      have HT3 := Lib.hid ht3
      have HNEW : Hid (∀ q k, getM pp q = some k → k ≠ gn) := Lib.hid (fun q k hq => by
        have := HV.out.lt k (.inr (.inr (.inr (.inl ⟨q, hq⟩))))
        omega)
      have HGN : Hid (B ≤ gn) := Lib.hid (by rw [hgn]; exact HVS.out)
      have HS : Hid (∀ V', Below V.heap.size V V' → ((V'.cell? ⟨gm, 2, none⟩ = some (.map (some bs)) ∧ V'.cell? ⟨gp, 0, none⟩ = some (.int .i64 e.node) ∧ V'.cell? ⟨gp, 1, none⟩ = some (.int .i64 e.cs)) ∧ (V'.cell? ⟨gc, 0, none⟩ = some (.int .i64 e.cs) ∧ V'.cell? ⟨gc, 1, none⟩ = some (.int .i64 e.cr)) ∧ V'.cell? ⟨gc, 2, none⟩ = some (.int .i64 e.ck) ∧ V'.cell? ⟨gc, 3, none⟩ = some (.string e.ckey) ∧ V'.cell? ⟨gc, 4, none⟩ = some (.string e.cval))) := Lib.hid (fun V' hb => by
        obtain ⟨q0, q1, q2, _⟩ := row3_facts (blk_b HV.out.mkr hb)
        obtain ⟨r0, r1⟩ := row2c (blk_b HVP.out hb)
        obtain ⟨l0, l1, l2, l3, l4⟩ := row5_facts (blk_b HVC.out hb)
        exact ⟨⟨q2, r0, r1⟩, ⟨l0, l1⟩, l2, l3, l4⟩)
      have HSY := Lib.hid (HS.out Y HYB.out)
      have HS3 : Hid (((w3.cell? ⟨gm, 2, none⟩ = some (.map (some bs)) ∧ w3.cell? ⟨gp, 0, none⟩ = some (.int .i64 e.node) ∧ w3.cell? ⟨gp, 1, none⟩ = some (.int .i64 e.cs)) ∧ (w3.cell? ⟨gc, 0, none⟩ = some (.int .i64 e.cs) ∧ w3.cell? ⟨gc, 1, none⟩ = some (.int .i64 e.cr)) ∧ w3.cell? ⟨gc, 2, none⟩ = some (.int .i64 e.ck) ∧ w3.cell? ⟨gc, 3, none⟩ = some (.string e.ckey) ∧ w3.cell? ⟨gc, 4, none⟩ = some (.string e.cval))) := Lib.hid (by
        simp only [ht3.cell]
        exact HSY.out)
      rw [hY] at hup HSY
      dsimp only [enP, enB] at hup
      rw [hgn] at hup
      have HYE := Lib.hid hY
      clear hm3 ht3 hcr1 c0 c1 hY hgn
      go_upto_region 7 with fail
      clear c2 p0 p1 k0 k1 k2 k3 k4
      go_region_held3 (fun V' => ((V'.cell? ⟨gm, 2, none⟩ = some (.map (some bs)) ∧ V'.cell? ⟨gp, 0, none⟩ = some (.int .i64 e.node) ∧ V'.cell? ⟨gp, 1, none⟩ = some (.int .i64 e.cs)) ∧ (V'.cell? ⟨gc, 0, none⟩ = some (.int .i64 e.cs) ∧ V'.cell? ⟨gc, 1, none⟩ = some (.int .i64 e.cr)) ∧ V'.cell? ⟨gc, 2, none⟩ = some (.int .i64 e.ck) ∧ V'.cell? ⟨gc, 3, none⟩ = some (.string e.ckey) ∧ V'.cell? ⟨gc, 4, none⟩ = some (.string e.cval)))
        ((first | with_reducible exact HS3.out | with_reducible exact HSY.out | (refine HS.out _ ?_; repeat (first | with_reducible exact Below.refl _ _ | with_reducible refine Below.drew ?_)))) (fail)
      rename_i hheld
      clear hheld hup
      go_wp2_with fail
      go_end0
      refine ⟨rfl, ⟨_, xs, av, by rw [HE.out]; exact HY.out.new HYR.out HGN.out HNEW.out HM3.out HT3.out tid0⟩, bl_turned HT3.out (HVB.out.trans (HYB.out.mono HVS.out)) HY.out.bss⟩
    · have HE : Hid (callM m e = m) := Lib.hid (by unfold callM; rw [HSS.out]; dsimp only; rw [if_neg hcr])
      by_cases hcr1 : e.cr = 1
      · have hcs0 : ¬ 0 ≤ e.cs := fun h => hcr ⟨hcr1, h⟩
        have e1 : (e.cr == 1) = true := by simp [hcr1]
        have e2 : decide (0 ≤ e.cs) = false := decide_eq_false hcs0
        clear hcr hcr1
        go_upto_region 8 with fail
        go_quiet (fail)
        go_wp2_with fail
        refine bodyPost_ret (results_none rfl _ _ _) rfl ?_
        exact ⟨rfl, ⟨pp, xs, av, by rw [HE.out]; exact HV.out.drewN_ _⟩, below_drewN HVB.out _⟩
      · have e1 : (e.cr == 1) = false := by simp [hcr1]
        clear hcr hcr1
        go_upto_region 8 with fail
        go_quiet (fail)
        go_wp2_with fail
        refine bodyPost_ret (results_none rfl _ _ _) rfl ?_
        exact ⟨rfl, ⟨pp, xs, av, by rw [HE.out]; exact HV.out.drewN_ _⟩, below_drewN HVB.out _⟩
  | some g =>
    rw [hpp] at hlk
    dsimp only [Option.elim, enB] at hlk
    obtain ⟨s, hs, hrow⟩ := HX.out.some_ _ g hpp
    have HPP := Lib.hid hpp
    have HSS := Lib.hid hs
    have HROW := Lib.hid hrow
    clear hpp hs hrow
    go_quiet (fail)
    clear hlk
    obtain ⟨V, hV⟩ : ∃ V, V = X.drewN nq := ⟨_, rfl⟩
    have HV : Hid (MkG V B gm ba bs N m pp xs av) := Lib.hid (by rw [hV]; exact HX.out.drewN_ nq)
    have HVP : Hid (V.heap[gp]? = some (.cells #[.int .i64 e.node, .int .i64 e.cs] 71 (0, 0))) := Lib.hid (by rw [hV]; exact HP.out)
    have HVC : Hid (V.heap[gc]? = some (.cells #[.int .i64 e.cs, .int .i64 e.cr, .int .i64 e.ck, .string e.ckey, .string e.cval] 26 (0, 0))) := Lib.hid (by rw [hV]; exact HC.out)
    have HVB : Hid (Below B w V) := Lib.hid (by rw [hV]; exact below_drewN HXB.out nq)
    have HVS : Hid (B ≤ V.heap.size) := Lib.hid (by rw [hV]; exact HBX.out)
    rw [← hV]
    clear hV c0 c1 c2 p0 p1 k0 k1 k2 k3 k4
    obtain ⟨c0, c1, c2, _⟩ := row3_facts HV.out.mkr
    obtain ⟨p0, p1⟩ := row2c HVP.out
    obtain ⟨k0, k1, k2, k3, k4⟩ := row5_facts HVC.out
    have HVR : Hid (V.heap[g]? = some (.cells (sesRow s) 84 (0, 0))) := Lib.hid (by
      obtain ⟨s2, h1, h2⟩ := HV.out.some_ _ g HPP.out
      have : some s = some s2 := HSS.out.symm.trans h1
      injection this with this
      rw [this]; exact h2)
    obtain ⟨s0, s1, s2, s3, s4, s5, s6, s7, s8, sf⟩ := row9_facts HVR.out
    cases hbusy : s.busy with
    | true =>
      have HE : Hid (callM m e = m) := Lib.hid (by unfold callM; rw [HSS.out]; dsimp only; rw [if_pos (.inl hbusy)])
      rw [hbusy] at s5
      clear hbusy
      go_upto_region 8 with fail
      go_quiet (fail)
      go_wp2_with fail
      refine bodyPost_ret (results_none rfl _ _ _) rfl ?_
      exact ⟨rfl, ⟨pp, xs, av, by rw [HE.out]; exact HV.out.drewN_ _⟩, below_drewN HVB.out _⟩
    | false =>
      rw [hbusy] at s5
      have HBU := Lib.hid hbusy
      clear hbusy
      by_cases hq : wrap64 (e.cr - 1) = s.req
      · have hq2 : (wrap64 (e.cr - 1) != s.req) = false := by simp [hq]
        have HQ := Lib.hid hq
        clear hq
        go_upto_region 8 with fail
        go_quiet (fail)
        clear hq2
        obtain ⟨U, hU⟩ : ∃ U, U = V.drewN nq := ⟨_, rfl⟩
        have HU : Hid (MkG U B gm ba bs N m pp xs av) := Lib.hid (by rw [hU]; exact HV.out.drewN_ nq)
        have HUC : Hid (U.heap[gc]? = some (.cells #[.int .i64 e.cs, .int .i64 e.cr, .int .i64 e.ck, .string e.ckey, .string e.cval] 26 (0, 0))) := Lib.hid (by rw [hU]; exact HVC.out)
        have HUR : Hid (U.heap[g]? = some (.cells (sesRow s) 84 (0, 0))) := Lib.hid (by rw [hU]; exact HVR.out)
        have HUB : Hid (Below B w U) := Lib.hid (by rw [hU]; exact below_drewN HVB.out nq)
        rw [← hU]
        clear hU c0 c1 c2 p0 p1 k0 k1 k2 k3 k4 s0 s1 s2 s3 s4 s5 s6 s7 s8 sf
        obtain ⟨k0, k1, k2, k3, k4⟩ := row5_facts HUC.out
        obtain ⟨s0, s1, s2, s3, s4, s5, s6, s7, s8, sf⟩ := row9_facts HUR.out
        go_upto_region 3 with fail
        obtain ⟨W2, hW2⟩ : ∃ W, W = (((((U.setCell ⟨g, 0, none⟩ (.int .i64 e.cs)).setCell ⟨g, 1, none⟩ (.int .i64 e.cr)).setCell ⟨g, 2, none⟩ (.int .i64 e.ck)).setCell ⟨g, 3, none⟩ (.string e.ckey)).setCell ⟨g, 4, none⟩ (.string e.cval)).setCell ⟨g, 5, none⟩ (.bool true) := ⟨_, rfl⟩
        rw [← hW2]
        have hW3 : W2 = sets U g [(0, .int .i64 e.cs), (1, .int .i64 e.cr), (2, .int .i64 e.ck), (3, .string e.ckey), (4, .string e.cval), (5, .bool true)] := hW2
        obtain ⟨s', hs'⟩ : ∃ s' : SesR, s' = { s with sess := e.cs, req := e.cr, kind := e.ck, key := e.ckey, val := e.cval, busy := true } := ⟨_, rfl⟩
        have HWR : Hid (W2.heap[g]? = some (.cells (sesRow s') 84 (0, 0))) := Lib.hid (by rw [hW3, hs']; exact sets_row _ _ HUR.out)
        have HWF : Hid (Fr (fun k => k = g) U W2) := Lib.hid (by rw [hW3]; exact sets_fr _ (Fr.refl _ _) (.inl rfl))
        have HWC : Hid (W2.heap[gc]? = some (.cells #[.int .i64 e.cs, .int .i64 e.cr, .int .i64 e.ck, .string e.ckey, .string e.cval] 26 (0, 0))) := Lib.hid (HWF.out.blk HUC.out (rows_ne HUC.out HUR.out (by decide)))
        have HWM : Hid (MkG W2 B gm ba bs N { m with ss := setM m.ss (e.node, e.cs) s' } pp xs av) := Lib.hid (HU.out.sess HPP.out HWF.out HWR.out (by rw [hs']; show Tid.IdOk (s.num, s.nd); exact HU.out.sid _ _ HSS.out))
        have HWB : Hid (Below B w W2) := Lib.hid (by rw [hW3]; exact sets_below _ HUB.out (HU.out.bse _ _ HPP.out))
        have HE : Hid (callM m e = { m with ss := setM m.ss (e.node, e.cs) s', all := match getM m.at_ (s.num, s.nd) with
                 | some i => if s.opn ∧ e.ck = 5 then updT m.all i fun t => { t with asked := true } else m.all
                 | none => m.all }) := Lib.hid (by unfold callM; rw [HSS.out]; dsimp only; rw [if_neg (by rw [HBU.out, HQ.out]; simp), hs']; rfl)
        have HSO : Hid (s'.num = s.num ∧ s'.nd = s.nd ∧ s'.opn = s.opn) := Lib.hid (by rw [hs']; exact ⟨rfl, rfl, rfl⟩)
        have hl2 : ∀ n, (Instr.lookup 64 (.map (some ba)) (.agg #[.int .u64 s.num, .int .i64 s.nd]) true).run Try.prog (W2.drewN n) = .ok (.tuple #[(getM m.at_ (s.num, s.nd)).elim (.int .i64 0) enN, .bool (getM m.at_ (s.num, s.nd)).isSome]) (W2.drewN n) := fun n => run_lookup (P := Try.prog) (e := 3) (z := .int .i64 0) Tid.km_tid Try.underlying64 (by kernel_rfl) (HWM.out.drewN_ n).at_ (x := (s.num, s.nd)) (HU.out.sid _ _ HSS.out) true
        clear hW2 hW3 hs' k0 k1 k2 k3 k4 s0 s1 s2 s3 s4 s5 s6 s7 s8 sf
        obtain ⟨c0, c1, c2, _⟩ := row3_facts HWM.out.mkr
        obtain ⟨k0, k1, k2, k3, k4⟩ := row5_facts HWC.out
        obtain ⟨_, _, _, _, _, _, s6, s7, s8, _⟩ := row9_facts HWR.out
        rw [HSO.out.1] at s6
        rw [HSO.out.2.1] at s7
        rw [HSO.out.2.2] at s8
        cases hat : getM m.at_ (s.num, s.nd) with
        | none =>
          rw [hat] at hl2
          dsimp only [Option.elim, Option.isSome] at hl2
          have HE2 : Hid (callM m e = { m with ss := setM m.ss (e.node, e.cs) s' }) := Lib.hid (by rw [HE.out, hat])
          clear hat
          go_quiet (fail)
          clear hl2
          go_wp2_with fail
          go_end0
          exact ⟨rfl, ⟨pp, xs, av, by rw [HE2.out]; exact HWM.out.drewN_ _⟩, below_drewN HWB.out _⟩
        | some i =>
          rw [hat] at hl2
          dsimp only [Option.elim, Option.isSome, enN] at hl2
          have HI : Hid (i < m.all.length) := Lib.hid (HU.out.idx _ _ hat)
          by_cases ho : s.opn = true ∧ e.ck = 5
          · obtain ⟨ho1, ho2⟩ := ho
            have e5 : (e.ck == 5) = true := by simp [ho2]
            have HE2 : Hid (callM m e = { m with ss := setM m.ss (e.node, e.cs) s', all := updT m.all i fun t => { t with asked := true } }) := Lib.hid (by rw [HE.out, hat]; dsimp only; rw [if_pos ⟨ho1, ho2⟩])
            rw [ho1] at s8
            have hxl : i < xs.length := by have h9 := HI.out; rw [HU.out.all, List.length_map] at h9; exact h9
            obtain ⟨x, hx⟩ : ∃ x, xs[i]? = some x := ⟨xs[i]'hxl, List.getElem?_eq_getElem _⟩
            obtain ⟨ga, oa, cap, cur, hav, _, _, hn1, hn2, _⟩ := HWM.out.own.form (by omega)
            have hrd := HWM.out.own.rd
            subst hav
            obtain ⟨ga', oa', cap', hav2, _, _, _, hcx⟩ := hrd.cells (by omega)
            injection hav2 with hav2 _ _
            injection hav2 with hav2
            injection hav2 with hav3 hav4 _
            subst hav3 hav4
            have a4 : W2.cell? ⟨ga, oa + i * 7 + 4, none⟩ = some (.bool x.t.asked) := by rw [Nat.add_assoc]; exact hcx _ _ (txc_at hx 4 _ rfl)
            have f4 : W2.frozen? ⟨ga, oa + i * 7 + 4, none⟩ = false := HWM.out.own.frozen rfl _
            have i0 : (0 : Int) ≤ (i : Int) := by omega
            obtain ⟨nx, hnx⟩ : ∃ n, n = xs.length := ⟨_, rfl⟩
            rw [← hnx] at c0 hxl hn1
            have i1 : (i : Int) < (nx : Int) := by omega
            unfold maxLen at hn2
            have HFX : Hid (∀ q, MkG ((W2.drewN q).setCell ⟨ga, oa + i * 7 + 4, none⟩ (.bool true)) B gm ba bs N { m with ss := setM m.ss (e.node, e.cs) s', all := m.all.set i { x.t with asked := true } } pp (xs.set i ⟨{ x.t with asked := true }, x.A, x.c⟩) (.slice (some ⟨ga, oa, none⟩) nx cap)) := Lib.hid (fun q => by
              have h9 := HWM.out
              rw [← hnx] at h9
              exact MkG.txn (y := ⟨{ x.t with asked := true }, x.A, x.c⟩) (h9.drewN_ q) hx (Nat.add_assoc _ _ _) (by omega) rfl rfl rfl)
            have HUP : Hid (updT m.all i (fun t => { t with asked := true }) = m.all.set i { x.t with asked := true }) := Lib.hid (by unfold updT; rw [HU.out.all, List.getElem?_map, hx]; rfl)
            have HGA : Hid (B ≤ ga) := Lib.hid (HWM.out.own.lt ga rfl).1
            clear hat ho1 ho2 hx hcx hrd hnx
            go_quiet (fail)
            clear hl2
            go_wp2_with fail
            go_end0
            exact ⟨rfl, ⟨pp, _, _, by rw [HE2.out, HUP.out]; exact HFX.out _⟩, (below_drewN HWB.out _).setCell HGA.out _⟩
          · have HE2 : Hid (callM m e = { m with ss := setM m.ss (e.node, e.cs) s' }) := Lib.hid (by rw [HE.out, hat]; dsimp only; rw [if_neg ho])
            clear hat
            cases hop : s.opn with
            | false =>
              rw [hop] at s8
              clear hop ho
              go_quiet (fail)
              clear hl2
              go_wp2_with fail
              go_end0
              exact ⟨rfl, ⟨pp, xs, av, by rw [HE2.out]; exact HWM.out.drewN_ _⟩, below_drewN HWB.out _⟩
            | true =>
              have hck : ¬ e.ck = 5 := fun h => ho ⟨hop, h⟩
              have e5 : (e.ck == 5) = false := by simp [hck]
              rw [hop] at s8
              clear hop ho hck
              go_quiet (fail)
              clear hl2
              go_wp2_with fail
              go_end0
              exact ⟨rfl, ⟨pp, xs, av, by rw [HE2.out]; exact HWM.out.drewN_ _⟩, below_drewN HWB.out _⟩
      · have HE : Hid (callM m e = m) := Lib.hid (by unfold callM; rw [HSS.out]; dsimp only; rw [if_pos (.inr hq)])
        have hq2 : (wrap64 (e.cr - 1) != s.req) = true := by simp [hq]
        clear hq
        go_upto_region 8 with fail
        go_quiet (fail)
        go_wp2_with fail
        refine bodyPost_ret (results_none rfl _ _ _) rfl ?_
        exact ⟨rfl, ⟨pp, xs, av, by rw [HE.out]; exact HV.out.drewN_ _⟩, below_drewN HVB.out _⟩
#print axioms call_g
end Go.Proofs.Ythkacajlbenflaa.HistG
