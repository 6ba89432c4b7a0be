/- The maker's said, whatever stands. -/
import Derived.Test.YthkacajlbenflaaHistCa
import Derived.Test.YthkacajlbenflaaHistNb
import Derived.Test.YthkacajlbenflaaHistFa
import Derived.Test.YthkacajlbenflaaHistSr
set_option linter.unusedVariables false
set_option linter.unusedSimpArgs false
set_option linter.unusedSectionVars false
set_option maxRecDepth 100000
namespace Go.Proofs.Ythkacajlbenflaa.HistG
open Go.RowKit Go.WideShapes Go.Deep Go.Proofs.Ythkacajlbenflaa.Mem Go.Proofs.Ythkacajlbenflaa.Maps Go.Proofs.Ythkacajlbenflaa.Kv Go.Proofs.Ythkacajlbenflaa.Open Go.Proofs.Ythkacajlbenflaa.HistA
set_option maxHeartbeats 4000000 in
theorem said_g {w : World} {B gm ba bs N : Nat} {m : MkR} {pp : List ((Int × Int) × Nat)} {xs : List TxP} {av : Value} (h : MkG w B gm ba bs N m pp xs av) (hB : B ≤ w.heap.size) (e : EvV) (hok : PlOk (e.node, e.as_)) (hid : Tid.IdOk (e.anum, e.and_)) (hN : N ≤ 1000) :
    Calls Try.prog 22 #[.pointer (some ⟨gm, 0, none⟩), .agg #[.int .i64 e.node, .int .i64 e.as_], .int .i64 e.step, .agg #[.int .i64 e.as_, .int .i64 e.ar, .int .i64 e.ac, .string e.aval, .bool e.ahas, .int .u64 e.anum, .int .i64 e.and_]] w fun x w' => x = .returned (.tuple #[]) ∧ MkX w w' B gm ba bs (N + 1) (saidM m e) := by
  obtain ⟨X, hX⟩ : ∃ X, X = (w.alloc (.cells #[.int .i64 e.node, .int .i64 e.as_] 71)).alloc (.cells #[.int .i64 e.as_, .int .i64 e.ar, .int .i64 e.ac, .string e.aval, .bool e.ahas, .int .u64 e.anum, .int .i64 e.and_] 32) := ⟨_, rfl⟩
  have hs1 : (w.alloc (.cells #[.int .i64 e.node, .int .i64 e.as_] 71)).heap.size = w.heap.size + 1 := by simp
  have hXB : Below w.heap.size w X := by rw [hX]; exact ((Below.refl _ _).alloc (Nat.le_refl _) _).alloc (by omega) _
  obtain ⟨gp, hgp⟩ : ∃ g, g = w.heap.size := ⟨_, rfl⟩
  obtain ⟨gc, hgc⟩ : ∃ g, g = w.heap.size + 1 := ⟨_, rfl⟩
  have hP : X.heap[gp]? = some (.cells #[.int .i64 e.node, .int .i64 e.as_] 71 (0, 0)) := by rw [hX, hgp]; exact (Below.heap_alloc _ _ _ (by omega)).trans (heap_alloc_new w _)
  have hC : X.heap[gc]? = some (.cells #[.int .i64 e.as_, .int .i64 e.ar, .int .i64 e.ac, .string e.aval, .bool e.ahas, .int .u64 e.anum, .int .i64 e.and_] 32 (0, 0)) := by rw [hX, hgc, ← hs1]; exact heap_alloc_new _ _
  have HX : Hid (MkG X B gm ba bs N m pp xs av) := Lib.hid (h.below hXB)
  have HXB : Hid (Below B w X) := Lib.hid (hXB.mono hB)
  have HP := Lib.hid hP
  have HC := Lib.hid hC
  have HBX : Hid (B ≤ X.heap.size) := Lib.hid (Nat.le_trans hB hXB.size)
  have hlk : ∀ n, (Instr.lookup 65 (.map (some bs)) (.agg #[.int .i64 e.node, .int .i64 e.as_]) false).run Try.prog (X.drewN n) = .ok ((getM pp (e.node, e.as_)).elim (.pointer none) enB) (X.drewN n) := fun n => run_lookup (P := Try.prog) (e := 82) (z := .pointer none) km_pl Try.underlying65 (by kernel_rfl) (HX.out.drewN_ n).sm (x := (e.node, e.as_)) hok false
  have HOK := Lib.hid hok
  have HID := Lib.hid hid
  have HNN := Lib.hid hN
  obtain ⟨c0, c1, c2, _⟩ := row3_facts HX.out.mkr
  obtain ⟨p0, p1⟩ := row2c hP
  obtain ⟨k0, k1, k2, k3, k4, k5, k6⟩ := row7_facts hC
  clear h hP hC hXB hok hs1 hid hN
  go_enter Try.func22, Try.ntmps22
  go_upto_region 1 with fail
  rw [← hX]
  rw [← hgc, ← hgp]
  clear hX hgp hgc
  cases hpp : getM pp (e.node, e.as_) with
  | none =>
    rw [hpp] at hlk
    dsimp only [Option.elim] at hlk
    have HSS : Hid (getM m.ss (e.node, e.as_) = none) := Lib.hid (HX.out.none_ _ hpp)
    have HE : Hid (saidM m e = m) := Lib.hid (by unfold saidM; rw [HSS.out])
    clear hpp
    go_quiet (fail)
    clear hlk
    obtain ⟨V, hV⟩ : ∃ V, V = X.drewN nq := ⟨_, rfl⟩
    have HV : Hid (MkG V B gm ba bs N m pp xs av) := Lib.hid (by rw [hV]; exact HX.out.drewN_ nq)
    have HVP : Hid (V.heap[gp]? = some (.cells #[.int .i64 e.node, .int .i64 e.as_] 71 (0, 0))) := Lib.hid (by rw [hV]; exact HP.out)
    have HVC : Hid (V.heap[gc]? = some (.cells #[.int .i64 e.as_, .int .i64 e.ar, .int .i64 e.ac, .string e.aval, .bool e.ahas, .int .u64 e.anum, .int .i64 e.and_] 32 (0, 0))) := Lib.hid (by rw [hV]; exact HC.out)
    have HVB : Hid (Below B w V) := Lib.hid (by rw [hV]; exact below_drewN HXB.out nq)
    have HVS : Hid (B ≤ V.heap.size) := Lib.hid (by rw [hV]; exact HBX.out)
    rw [← hV]
    clear hV c0 c1 c2 p0 p1 k0 k1 k2 k3 k4 k5 k6
    obtain ⟨c0, c1, c2, _⟩ := row3_facts HV.out.mkr
    obtain ⟨p0, p1⟩ := row2c HVP.out
    obtain ⟨k0, k1, k2, k3, k4, k5, k6⟩ := row7_facts HVC.out
    go_upto_region 2 with fail
    go_quiet (fail)
    go_wp2_with fail
    refine bodyPost_ret (results_none rfl _ _ _) rfl ?_
    exact ⟨rfl, ⟨pp, xs, av, by rw [HE.out]; exact (HV.out.drewN_ _).more (Nat.le_succ _)⟩, below_drewN HVB.out _⟩
  | some g =>
    rw [hpp] at hlk
    dsimp only [Option.elim, enB] at hlk
    obtain ⟨s, hs, hrow⟩ := HX.out.some_ _ g hpp
    have HPP := Lib.hid hpp
    have HSS := Lib.hid hs
    clear hpp hs hrow
    go_quiet (fail)
    clear hlk
    obtain ⟨V, hV⟩ : ∃ V, V = X.drewN nq := ⟨_, rfl⟩
    have HV : Hid (MkG V B gm ba bs N m pp xs av) := Lib.hid (by rw [hV]; exact HX.out.drewN_ nq)
    have HVP : Hid (V.heap[gp]? = some (.cells #[.int .i64 e.node, .int .i64 e.as_] 71 (0, 0))) := Lib.hid (by rw [hV]; exact HP.out)
    have HVC : Hid (V.heap[gc]? = some (.cells #[.int .i64 e.as_, .int .i64 e.ar, .int .i64 e.ac, .string e.aval, .bool e.ahas, .int .u64 e.anum, .int .i64 e.and_] 32 (0, 0))) := Lib.hid (by rw [hV]; exact HC.out)
    have HVB : Hid (Below B w V) := Lib.hid (by rw [hV]; exact below_drewN HXB.out nq)
    have HVS : Hid (B ≤ V.heap.size) := Lib.hid (by rw [hV]; exact HBX.out)
    rw [← hV]
    clear hV c0 c1 c2 p0 p1 k0 k1 k2 k3 k4 k5 k6
    obtain ⟨c0, c1, c2, _⟩ := row3_facts HV.out.mkr
    obtain ⟨p0, p1⟩ := row2c HVP.out
    obtain ⟨k0, k1, k2, k3, k4, k5, k6⟩ := row7_facts HVC.out
    have HVR : Hid (V.heap[g]? = some (.cells (sesRow s) 84 (0, 0))) := Lib.hid (by
      obtain ⟨s2, h1, h2⟩ := HV.out.some_ _ g HPP.out
      have : some s = some s2 := HSS.out.symm.trans h1
      injection this with this
      rw [this]; exact h2)
    obtain ⟨s0, s1, s2, s3, s4, s5, s6, s7, s8, sf⟩ := row9_facts HVR.out
    cases hbusy : s.busy with
    | false =>
      have HE : Hid (saidM m e = m) := Lib.hid (by unfold saidM; rw [HSS.out]; dsimp only; rw [if_pos (.inl hbusy)])
      rw [hbusy] at s5
      clear hbusy
      go_upto_region 2 with fail
      go_quiet (fail)
      go_wp2_with fail
      refine bodyPost_ret (results_none rfl _ _ _) rfl ?_
      exact ⟨rfl, ⟨pp, xs, av, by rw [HE.out]; exact (HV.out.drewN_ _).more (Nat.le_succ _)⟩, below_drewN HVB.out _⟩
    | true =>
      rw [hbusy] at s5
      have HBU := Lib.hid hbusy
      clear hbusy
      by_cases hq : e.ar = s.req
      · have hq2 : (e.ar != s.req) = false := by simp [hq]
        have HQ := Lib.hid hq
        clear hq
        go_upto_region 2 with fail
        go_quiet (fail)
        clear hq2
        obtain ⟨U, hU⟩ : ∃ U, U = V.drewN nq := ⟨_, rfl⟩
        have HU : Hid (MkG U B gm ba bs N m pp xs av) := Lib.hid (by rw [hU]; exact HV.out.drewN_ nq)
        have HUP : Hid (U.heap[gp]? = some (.cells #[.int .i64 e.node, .int .i64 e.as_] 71 (0, 0))) := Lib.hid (by rw [hU]; exact HVP.out)
        have HUC : Hid (U.heap[gc]? = some (.cells #[.int .i64 e.as_, .int .i64 e.ar, .int .i64 e.ac, .string e.aval, .bool e.ahas, .int .u64 e.anum, .int .i64 e.and_] 32 (0, 0))) := Lib.hid (by rw [hU]; exact HVC.out)
        have HUR : Hid (U.heap[g]? = some (.cells (sesRow s) 84 (0, 0))) := Lib.hid (by rw [hU]; exact HVR.out)
        have HUB : Hid (Below B w U) := Lib.hid (by rw [hU]; exact below_drewN HVB.out nq)
        rw [← hU]
        clear hU c0 c1 c2 p0 p1 k0 k1 k2 k3 k4 k5 k6 s0 s1 s2 s3 s4 s5 s6 s7 s8 sf
        obtain ⟨s0, s1, s2, s3, s4, s5, s6, s7, s8, sf⟩ := row9_facts HUR.out
        go_upto_region 4 with fail
        obtain ⟨W2, hW2⟩ : ∃ W, W = U.setCell ⟨g, 5, none⟩ (.bool false) := ⟨_, rfl⟩
        rw [← hW2]
        have hW3 : W2 = sets U g [(5, .bool false)] := hW2
        obtain ⟨s', hs'⟩ : ∃ s' : SesR, s' = { s with busy := false } := ⟨_, rfl⟩
        have HS1 : Hid (s' = { s with busy := false }) := Lib.hid hs'
        have HWR : Hid (W2.heap[g]? = some (.cells (sesRow s') 84 (0, 0))) := Lib.hid (by rw [hW3, hs']; exact sets_row _ _ HUR.out)
        have HWF : Hid (Fr (fun k => k = g) U W2) := Lib.hid (by rw [hW3]; exact sets_fr _ (Fr.refl _ _) (.inl rfl))
        have HWP : Hid (W2.heap[gp]? = some (.cells #[.int .i64 e.node, .int .i64 e.as_] 71 (0, 0))) := Lib.hid (HWF.out.blk HUP.out (rows_ne HUP.out HUR.out (by decide)))
        have HWC : Hid (W2.heap[gc]? = some (.cells #[.int .i64 e.as_, .int .i64 e.ar, .int .i64 e.ac, .string e.aval, .bool e.ahas, .int .u64 e.anum, .int .i64 e.and_] 32 (0, 0))) := Lib.hid (HWF.out.blk HUC.out (rows_ne HUC.out HUR.out (by decide)))
        have HWM : Hid (MkG W2 B gm ba bs N { m with ss := setM m.ss (e.node, e.as_) s' } pp xs av) := Lib.hid (HU.out.sess HPP.out HWF.out HWR.out (by rw [hs']; show Tid.IdOk (s.num, s.nd); exact HU.out.sid _ _ HSS.out))
        have HWB : Hid (Below B w W2) := Lib.hid (by rw [hW3]; exact sets_below _ HUB.out (HU.out.bse _ _ HPP.out))
        have HBG := Lib.hid (HU.out.bse _ _ HPP.out)
        clear hW2 hW3 hs' s0 s1 s2 s3 s4 s5 s6 s7 s8 sf
        obtain ⟨c0, c1, c2, cf⟩ := row3_facts HWM.out.mkr
        obtain ⟨p0, p1⟩ := row2c HWP.out
        obtain ⟨k0, k1, k2, k3, k4, k5, k6⟩ := row7_facts HWC.out
        by_cases h17 : e.ac = 17
        · have e17 : (e.ac == 17) = true := by simp [h17]
          have HE : Hid (saidM m e = { m with ss := delM m.ss (e.node, e.as_) }) := Lib.hid (by unfold saidM; rw [HSS.out]; dsimp only; rw [if_neg (by rw [HBU.out]; simp [HQ.out]), if_pos h17])
          clear h17
          obtain ⟨w3, hdel, hm3, ht3⟩ := run_delete (P := Try.prog) (ty := 0) km_pl Try.underlying65 HWM.out.drew_.sm HOK.out
          have HM3 := Lib.hid hm3
          have HT3 := Lib.hid ht3
          have HSA : Hid (W2.drew.cell? ⟨gm, 2, none⟩ = some (.map (some bs)) ∧ W2.drew.cell? ⟨gp, 0, none⟩ = some (.int .i64 e.node) ∧ W2.drew.cell? ⟨gp, 1, none⟩ = some (.int .i64 e.as_)) := Lib.hid ⟨c2, p0, p1⟩
          have HSB : Hid (w3.cell? ⟨gm, 2, none⟩ = some (.map (some bs)) ∧ w3.cell? ⟨gp, 0, none⟩ = some (.int .i64 e.node) ∧ w3.cell? ⟨gp, 1, none⟩ = some (.int .i64 e.as_)) := Lib.hid ⟨(ht3.cell _).trans c2, (ht3.cell _).trans p0, (ht3.cell _).trans p1⟩
          dsimp only [enP] at hdel
          clear hm3 ht3
          go_upto_region 5 with fail
          go_region_held3 (fun V => V.cell? ⟨gm, 2, none⟩ = some (.map (some bs)) ∧ V.cell? ⟨gp, 0, none⟩ = some (.int .i64 e.node) ∧ V.cell? ⟨gp, 1, none⟩ = some (.int .i64 e.as_))
            ((first | with_reducible exact HSA.out | with_reducible exact HSB.out)) (fail)
          rename_i hheld
          clear hheld hdel
          go_wp2_with fail
          refine bodyPost_ret (results_none rfl _ _ _) rfl ?_
          refine ⟨rfl, ⟨delM pp (e.node, e.as_), xs, av, ?_⟩, bl_turned HT3.out HWB.out.drew HWM.out.bss⟩
          rw [HE.out]
          have h9 := (HWM.out.drew_.strike HM3.out HT3.out).ext (ss := delM m.ss (e.node, e.as_)) (fun q => by
            dsimp only
            rw [getM_del, getM_del, getM_set]
            split <;> rfl)
          exact h9.more (Nat.le_succ _)
        · have e17 : (e.ac == 17) = false := by simp [h17]
          have H17 := Lib.hid h17
          clear h17
          obtain ⟨s0, s1, s2, s3, s4, s5, s6, s7, s8, sf⟩ := row9_facts HWR.out
          have hk2 : s'.kind = s.kind := by rw [HS1.out]
          rw [hk2] at s2
          clear hk2
          by_cases hbg : s.kind = 1 ∧ e.ac = 0
          · obtain ⟨hb1, hb2⟩ := hbg
            have e1 : (s.kind == 1) = true := by simp [hb1]
            have e2 : (e.ac == 0) = true := by simp [hb2]
            have HE : Hid (saidM m e = { all := m.all ++ [⟨e.anum, e.and_, e.step, 0, false, false, []⟩], at_ := setM m.at_ (e.anum, e.and_) m.all.length, ss := setM m.ss (e.node, e.as_) { s with busy := false, num := e.anum, nd := e.and_, opn := true } }) := Lib.hid (by unfold saidM; rw [HSS.out]; dsimp only; rw [if_neg (by rw [HBU.out]; simp [HQ.out]), if_neg H17.out, if_pos ⟨hb1, hb2⟩])
            clear hb1 hb2
            go_upto_region 8 with fail
            obtain ⟨W3, hW3⟩ : ∃ W, W = ((W2.setCell ⟨g, 6, none⟩ (.int .u64 e.anum)).setCell ⟨g, 7, none⟩ (.int .i64 e.and_)).setCell ⟨g, 8, none⟩ (.bool true) := ⟨_, rfl⟩
            rw [← hW3]
            have hW4 : W3 = sets W2 g [(6, .int .u64 e.anum), (7, .int .i64 e.and_), (8, .bool true)] := hW3
            have H3R : Hid (W3.heap[g]? = some (.cells (sesRow { s' with num := e.anum, nd := e.and_, opn := true }) 84 (0, 0))) := Lib.hid (by rw [hW4]; exact sets_row _ _ HWR.out)
            have H3F : Hid (Fr (fun k => k = g) W2 W3) := Lib.hid (by rw [hW4]; exact sets_fr _ (Fr.refl _ _) (.inl rfl))
            have H3C : Hid (W3.heap[gc]? = some (.cells #[.int .i64 e.as_, .int .i64 e.ar, .int .i64 e.ac, .string e.aval, .bool e.ahas, .int .u64 e.anum, .int .i64 e.and_] 32 (0, 0))) := Lib.hid (H3F.out.blk HWC.out (rows_ne HWC.out HWR.out (by decide)))
            have H3B : Hid (Below B w W3) := Lib.hid (by rw [hW4]; exact sets_below _ HWB.out HBG.out)
            have H3M : Hid (MkG W3 B gm ba bs N { m with ss := setM m.ss (e.node, e.as_) { s with busy := false, num := e.anum, nd := e.and_, opn := true } } pp xs av) := Lib.hid ((HWM.out.sess HPP.out H3F.out H3R.out HID.out).ext (fun q => by
              dsimp only
              rw [getM_set, getM_set, getM_set, HS1.out]
              split <;> rfl))
            clear hW3 hW4 c0 c1 c2 cf p0 p1 k0 k1 k2 k3 k4 k5 k6 s0 s1 s2 s3 s4 s5 s6 s7 s8 sf
            obtain ⟨A1, ca, hav, hn1, hn2⟩ := H3M.out.own.slice_
            subst hav
            obtain ⟨nx, hnx⟩ : ∃ n, n = xs.length := ⟨_, rfl⟩
            have HNX := Lib.hid hnx
            have hnxl : nx ≤ 1000 := by rw [hnx]; exact Nat.le_trans H3M.out.lenx HNN.out
            have HAL : Hid (m.all.length = nx) := Lib.hid (by rw [hnx]; have h9 := H3M.out.all; dsimp only at h9; rw [h9, List.length_map])
            obtain ⟨c0, c1, c2, cf⟩ := row3_facts H3M.out.mkr
            rw [← hnx] at c0
            clear hnx
            obtain ⟨k0, k1, k2, k3, k4, k5, k6⟩ := row7_facts H3C.out
            obtain ⟨w4, hup, hm4, ht4⟩ := run_update (P := Try.prog) Tid.km_tid Try.underlying64 H3M.out.drew_.at_ HID.out nx
            have HM4 := Lib.hid hm4
            have HT4 := Lib.hid ht4
            have HSA : Hid ((W3.drew.cell? ⟨gm, 1, none⟩ = some (.map (some ba)) ∧ W3.drew.cell? ⟨gm, 0, none⟩ = some (.slice A1 nx ca)) ∧ W3.drew.cell? ⟨gc, 5, none⟩ = some (.int .u64 e.anum) ∧ W3.drew.cell? ⟨gc, 6, none⟩ = some (.int .i64 e.and_)) := Lib.hid ⟨⟨c1, c0⟩, k5, k6⟩
            have HSB : Hid ((w4.cell? ⟨gm, 1, none⟩ = some (.map (some ba)) ∧ w4.cell? ⟨gm, 0, none⟩ = some (.slice A1 nx ca)) ∧ w4.cell? ⟨gc, 5, none⟩ = some (.int .u64 e.anum) ∧ w4.cell? ⟨gc, 6, none⟩ = some (.int .i64 e.and_)) := Lib.hid ⟨⟨(ht4.cell _).trans c1, (ht4.cell _).trans c0⟩, (ht4.cell _).trans k5, (ht4.cell _).trans k6⟩
            dsimp only [Tid.encT, enN] at hup
            clear hm4 ht4 c0 c1 c2 cf k0 k1 k2 k3 k4 k5 k6
            go_region_held3 (fun V => (V.cell? ⟨gm, 1, none⟩ = some (.map (some ba)) ∧ V.cell? ⟨gm, 0, none⟩ = some (.slice A1 nx ca)) ∧ V.cell? ⟨gc, 5, none⟩ = some (.int .u64 e.anum) ∧ V.cell? ⟨gc, 6, none⟩ = some (.int .i64 e.and_))
              ((first | with_reducible exact HSA.out | with_reducible exact HSB.out)) (fail)
            rename_i hheld
            clear hheld hup
            go_upto_region 9 with fail
            obtain ⟨⟨_, c0⟩, k5, k6⟩ := HSB.out
            have H4R : Hid (w4.heap[gm]? = some (.cells #[.slice A1 nx ca, .map (some ba), .map (some bs)] 67 (0, 0))) := Lib.hid (by
              have h9 := (HT4.out.fr.block gm (Array.getElem?_eq_some_iff.1 H3M.out.mkr).1 (fun e1 => map_not_row H3M.out.at_ H3M.out.mkr e1.symm)).trans H3M.out.drew_.mkr
              rw [← HNX.out] at h9
              exact h9)
            have hgml : gm < w4.heap.size := (Array.getElem?_eq_some_iff.1 H4R.out).1
            have hgcl : gc < w4.heap.size := by rw [HT4.out.size]; exact (Array.getElem?_eq_some_iff.1 H3C.out).1
            have H4O : Hid (Own w4 B 39 7 (.slice A1 nx ca) nx (txc xs)) := Lib.hid (by
              have h9 := H3M.out.drew_.own.fr HT4.out.fr (fun k hk e1 => own_not_map H3M.out.own H3M.out.at_ (by rw [← e1]; exact hk))
              rw [← HNX.out] at h9
              exact h9)
            have H4B : Hid (Below B w w4) := Lib.hid (bl_turned HT4.out H3B.out.drew H3M.out.bat)
            have H4S : Hid (B ≤ w4.heap.size) := Lib.hid (by have := H3M.out.bm; omega)
            obtain ⟨D, hD⟩ : ∃ D, D = (w4.alloc (.cells #[.int .u64 e.anum, .int .i64 e.and_, .int .i64 e.step, .int .i64 0, .bool false, .bool false, .slice none 0 0] 39)).drew := ⟨_, rfl⟩
            have HDB : Hid (Below w4.heap.size w4 D) := Lib.hid (by rw [hD]; exact ((Below.refl _ _).alloc (Nat.le_refl _) _).drew)
            have HDR : Hid (D.heap[w4.heap.size]? = some (.cells #[.int .u64 e.anum, .int .i64 e.and_, .int .i64 e.step, .int .i64 0, .bool false, .bool false, .slice none 0 0] 39 (0, 0))) := Lib.hid (by rw [hD]; exact heap_alloc_new w4 _)
            have HDO := Lib.hid (H4O.out.below HDB.out)
            have HAP := Lib.hid (app_tx HDO.out (Nat.le_trans H4S.out HDB.out.size) HDR.out (fun u hu => by simp only [List.mem_cons, List.not_mem_nil, or_false] at hu; rcases hu with rfl | rfl | rfl | rfl | rfl | rfl | rfl <;> rfl) hnxl)
            have HDE := Lib.hid hD
            rw [hD] at HAP
            clear hD
            go_region_law (refine step_append rfl _ _ 35 35 rfl (by simp [Act.eval, Act.put]) (by simp [Act.eval, Act.put]) HAP.out ?_; rintro v6 w6 ⟨⟨A6, c6, rfl⟩, ho6, hf6⟩; rw [← HDE.out] at hf6; have HO6 := Lib.hid ho6; have HF6 := Lib.hid hf6; have hr6 := hf6.blk (blk_b H4R.out HDB.out) (own_not_row HDO.out (blk_b H4R.out HDB.out) (by decide)); obtain ⟨m0, m1, m2, mf⟩ := row3_facts hr6; have mf0 := mf 0; clear ho6 hf6 hr6 mf)
            all_goals
              go_wp2_with fail
              refine bodyPost_ret (results_none rfl _ _ _) rfl ?_
              refine ⟨rfl, ⟨pp, xs ++ [⟨⟨e.anum, e.and_, e.step, 0, false, false, []⟩, none, 0⟩], .slice A6 (nx + 1) c6, ?_⟩, ((H4B.out.trans (HDB.out.mono H4S.out)).trans (HF6.out.below (Nat.le_trans H4S.out HDB.out.size) fun k _ hk => (HDO.out.lt k hk).1)).setCell H3M.out.bm _⟩
              rw [HE.out]
              have h9 := H3M.out.drew_.begin_ (w1 := w4) (w2 := D) (w' := w6) (tid := (e.anum, e.and_)) (t := ⟨e.anum, e.and_, e.step, 0, false, false, []⟩) (v' := .slice A6 (nx + 1) c6) (Nat.le_trans (H3M.out.bm) (Nat.le_of_lt (by have := (Array.getElem?_eq_some_iff.1 H3M.out.mkr).1; exact this))) HT4.out (by rw [HAL.out]; exact HM4.out) HDB.out rfl (by rw [← HNX.out]; exact HO6.out) (by rw [← HNX.out]; exact HF6.out)
              exact h9
          · have HBG2 := Lib.hid hbg
            go_upto_region 6 with fail
            go_cut [58] from 48 to 58 (fun v58 wx => v58 = .bool false ∧ wx = W2)
            case first =>
              by_cases hb1 : s.kind = 1
              · have hb2 : ¬ e.ac = 0 := fun h => hbg ⟨hb1, h⟩
                have e1 : (s.kind == 1) = true := by simp [hb1]
                have e2 : (e.ac == 0) = false := by simp [hb2]
                clear hb1 hb2 hbg
                go_wp2_with fail
                go_meet
                case rel => exact ⟨rfl, rfl⟩
              · have e1 : (s.kind == 1) = false := by simp [hb1]
                clear hb1 hbg
                go_wp2_with fail
                go_meet
                case rel => exact ⟨rfl, rfl⟩
            case rest =>
              obtain ⟨rfl, hwz⟩ := hcut
              rw [hwz]
              clear hwz wc hbg
              have HSO : Hid (s'.num = s.num ∧ s'.nd = s.nd ∧ s'.opn = s.opn) := Lib.hid (by rw [HS1.out]; exact ⟨rfl, rfl, rfl⟩)
              rw [HSO.out.1] at s6
              rw [HSO.out.2.1] at s7
              rw [HSO.out.2.2] at s8
              have hl2 : ∀ n, (Instr.lookup 64 (.map (some ba)) (.agg #[.int .u64 s.num, .int .i64 s.nd]) true).run Try.prog (W2.drewN n) = .ok (.tuple #[(getM m.at_ (s.num, s.nd)).elim (.int .i64 0) enN, .bool (getM m.at_ (s.num, s.nd)).isSome]) (W2.drewN n) := fun n => run_lookup (P := Try.prog) (e := 3) (z := .int .i64 0) Tid.km_tid Try.underlying64 (by kernel_rfl) (HWM.out.drewN_ n).at_ (x := (s.num, s.nd)) (HU.out.sid _ _ HSS.out) true
              cases hat : getM m.at_ (s.num, s.nd) with
              | none =>
                rw [hat] at hl2
                dsimp only [Option.elim, Option.isSome] at hl2
                have HE : Hid (saidM m e = { m with ss := setM m.ss (e.node, e.as_) s' }) := Lib.hid (by unfold saidM; rw [HSS.out]; dsimp only; rw [if_neg (by rw [HBU.out]; simp [HQ.out]), if_neg H17.out, if_neg HBG2.out, hat, HS1.out])
                clear hat
                go_upto_region 10 with fail
                go_quiet (fail)
                clear hl2
                go_wp2_with fail
                refine bodyPost_ret (results_none rfl _ _ _) rfl ?_
                exact ⟨rfl, ⟨pp, xs, av, by rw [HE.out]; exact (HWM.out.drewN_ _).more (Nat.le_succ _)⟩, below_drewN HWB.out _⟩
              | some i =>
                rw [hat] at hl2
                dsimp only [Option.elim, Option.isSome, enN] at hl2
                have HAT := Lib.hid hat
                clear hat
                cases hop : s.opn with
                | false =>
                  have HE : Hid (saidM m e = { m with ss := setM m.ss (e.node, e.as_) s' }) := Lib.hid (by unfold saidM; rw [HSS.out]; dsimp only; rw [if_neg (by rw [HBU.out]; simp [HQ.out]), if_neg H17.out, if_neg HBG2.out, HAT.out]; dsimp only; rw [if_pos hop, HS1.out])
                  rw [hop] at s8
                  clear hop
                  go_upto_region 10 with fail
                  go_quiet (fail)
                  clear hl2
                  go_wp2_with fail
                  refine bodyPost_ret (results_none rfl _ _ _) rfl ?_
                  exact ⟨rfl, ⟨pp, xs, av, by rw [HE.out]; exact (HWM.out.drewN_ _).more (Nat.le_succ _)⟩, below_drewN HWB.out _⟩
                | true =>
                  rw [hop] at s8
                  have HOP := Lib.hid hop
                  clear hop
                  go_upto_region 10 with fail
                  go_quiet (fail)
                  clear hl2
                  obtain ⟨Y, hY⟩ : ∃ Y, Y = W2.drewN nq := ⟨_, rfl⟩
                  have HYM : Hid (MkG Y B gm ba bs N { m with ss := setM m.ss (e.node, e.as_) s' } pp xs av) := Lib.hid (by rw [hY]; exact HWM.out.drewN_ nq)
                  have HYC : Hid (Y.heap[gc]? = some (.cells #[.int .i64 e.as_, .int .i64 e.ar, .int .i64 e.ac, .string e.aval, .bool e.ahas, .int .u64 e.anum, .int .i64 e.and_] 32 (0, 0))) := Lib.hid (by rw [hY]; exact HWC.out)
                  have HYR : Hid (Y.heap[g]? = some (.cells (sesRow s') 84 (0, 0))) := Lib.hid (by rw [hY]; exact HWR.out)
                  have HYB : Hid (Below B w Y) := Lib.hid (by rw [hY]; exact below_drewN HWB.out nq)
                  rw [← hY]
                  clear hY c0 c1 c2 cf p0 p1 k0 k1 k2 k3 k4 k5 k6 s0 s1 s2 s3 s4 s5 s6 s7 s8 sf
                  have hxl : i < xs.length := by have h9 := HU.out.idx _ _ HAT.out; rw [HU.out.all, List.length_map] at h9; exact h9
                  obtain ⟨x, hx⟩ : ∃ x, xs[i]? = some x := ⟨xs[i]'hxl, List.getElem?_eq_getElem _⟩
                  obtain ⟨ga, oa, cap, cur, hav, _, _, hn1, hn2, _⟩ := HYM.out.own.form (by omega)
                  subst hav
                  obtain ⟨ga', oa', cap', hav2, _, _, _, hcx⟩ := HYM.out.own.rd.cells (by omega)
                  injection hav2 with hav2 _ _
                  injection hav2 with hav2
                  injection hav2 with hav3 hav4 _
                  subst hav3 hav4
                  obtain ⟨c0, c1, c2, cf⟩ := row3_facts HYM.out.mkr
                  obtain ⟨k0, k1, k2, k3, k4, k5, k6⟩ := row7_facts HYC.out
                  obtain ⟨s0, s1, s2, s3, s4, s5, s6, s7, s8, sf⟩ := row9_facts HYR.out
                  have i0 : (0 : Int) ≤ (i : Int) := by omega
                  obtain ⟨nx, hnx⟩ : ∃ n, n = xs.length := ⟨_, rfl⟩
                  rw [← hnx] at c0 hxl hn1
                  have i1 : (i : Int) < (nx : Int) := by omega
                  unfold maxLen at hn2
                  have HNX := Lib.hid hnx
                  have HXX := Lib.hid hx
                  have HCX := Lib.hid hcx
                  have hkk : s'.kind = s.kind := by rw [HS1.out]
                  have hkey : s'.key = s.key := by rw [HS1.out]
                  have hval : s'.val = s.val := by rw [HS1.out]
                  rw [hkk] at s2
                  rw [hkey] at s3
                  rw [hval] at s4
                  rw [HSO.out.2.2, HOP.out] at s8
                  have HT : Hid (saidM m e = { m with all := m.all.set i (sayT s e x.t).1, ss := setM m.ss (e.node, e.as_) { s with busy := false, opn := (sayT s e x.t).2 } }) := Lib.hid (by
                    have hm9 : m.all[i]? = some x.t := by rw [HU.out.all, List.getElem?_map, hx]; rfl
                    unfold saidM; rw [HSS.out]; dsimp only; rw [if_neg (by rw [HBU.out]; simp [HQ.out]), if_neg H17.out, if_neg HBG2.out, HAT.out]; dsimp only; rw [if_neg (by rw [HOP.out]; simp), hm9])
                  clear hnx hx hcx hkk hkey hval
                  have HFT := Lib.hid (fate_g e.ac Y)
                  obtain ⟨fb, hfb⟩ : ∃ b, b = fateB e.ac := ⟨_, rfl⟩
                  rw [← hfb] at HFT
                  have HFB := Lib.hid hfb
                  clear hfb
                  have a5 : Y.cell? ⟨ga, oa + i * 7 + 5, none⟩ = some (.bool x.t.lost) := by rw [Nat.add_assoc]; exact HCX.out _ _ (txc_at HXX.out 5 _ rfl)
                  have f5 : Y.frozen? ⟨ga, oa + i * 7 + 5, none⟩ = false := HYM.out.own.frozen rfl _
                  have HGA : Hid (B ≤ ga) := Lib.hid (HYM.out.own.lt ga rfl).1
                  have HPS : Hid (getM (setM m.ss (e.node, e.as_) s') (e.node, e.as_) = some s') := Lib.hid (by rw [getM_set, if_pos rfl])
                  have hne1 : ga ≠ g := fun e1 => own_not_row HYM.out.own HYR.out (by decide) (by rw [← e1]; rfl)
                  have hne2 : g ≠ ga := fun e1 => hne1 e1.symm
                  cases fb with
                  | true =>
                    obtain ⟨lb, hlb⟩ : ∃ b, (e.ac != 16) = b := ⟨_, rfl⟩
                    have HSY : Hid (sayT s e x.t = ({ x.t with lost := lb }, false)) := Lib.hid (by
                      unfold sayT
                      rw [if_pos HFB.out.symm, ← hlb]
                      have : decide (e.ac ≠ 16) = (e.ac != 16) := by by_cases h : e.ac = 16 <;> simp [h]
                      rw [this])
                    go_wp2_with (go_at_call 32; refine HFT.out.mono ?_; rintro e9 w9 ⟨rfl, hw9⟩; rw [hw9]; clear hw9 w9)
                    go_end0
                    refine ⟨rfl, ⟨pp, xs.set i ⟨{ x.t with lost := lb }, x.A, x.c⟩, .slice (some ⟨ga, oa, none⟩) nx cap, ?_⟩, ((HYB.out.setCell HGA.out _).setCell HBG.out _)⟩
                    rw [HT.out, HSY.out]
                    have h9 := MkG.shut (y := ⟨{ x.t with lost := lb }, x.A, x.c⟩) (u := .bool lb) (by have h8 := HYM.out; rw [← HNX.out] at h8; exact h8) HXX.out (Nat.add_assoc oa (i * 7) 5) (by omega) rfl rfl rfl HPP.out HPS.out
                    refine (h9.ext (ss := setM m.ss (e.node, e.as_) { s with busy := false, opn := false }) (fun q => ?_)).more (Nat.le_succ _)
                    dsimp only
                    rw [getM_set, getM_set, getM_set, HS1.out]
                    split <;> rfl
                  | false =>
                    have HM9 : Hid (m.all[i]? = some x.t) := Lib.hid (by rw [HU.out.all, List.getElem?_map, HXX.out]; rfl)
                    by_cases hc0 : e.ac = 0
                    · have e0 : (e.ac != 0) = false := by simp [hc0]
                      have HC0 := Lib.hid hc0
                      clear hc0
                      by_cases h5 : s.kind = 5
                      · have e5 : (s.kind == 5) = true := by simp [h5]
                        have H5 := Lib.hid h5
                        clear h5
                        have aj : Y.cell? ⟨ga, oa + i * 7 + 3, none⟩ = some (.int .i64 x.t.fin) := by rw [Nat.add_assoc]; exact HCX.out _ _ (txc_at HXX.out 3 _ rfl)
                        have fj : Y.frozen? ⟨ga, oa + i * 7 + 3, none⟩ = false := HYM.out.own.frozen rfl _
                        have HSY : Hid (sayT s e x.t = ({ x.t with fin := e.step }, false)) := Lib.hid (by unfold sayT; rw [if_neg (by rw [← HFB.out]; simp), if_neg (by simp [HC0.out]), if_pos H5.out])
                        go_wp2_with (go_at_call 32; refine HFT.out.mono ?_; rintro e9 w9 ⟨rfl, hw9⟩; rw [hw9]; clear hw9 w9)
                        go_end0
                        refine ⟨rfl, ⟨pp, xs.set i ⟨{ x.t with fin := e.step }, x.A, x.c⟩, .slice (some ⟨ga, oa, none⟩) nx cap, ?_⟩, ((HYB.out.setCell HGA.out _).setCell HBG.out _)⟩
                        rw [HT.out, HSY.out]
                        have h9 := MkG.shut (y := ⟨{ x.t with fin := e.step }, x.A, x.c⟩) (u := .int .i64 e.step) (by have h8 := HYM.out; rw [← HNX.out] at h8; exact h8) HXX.out (Nat.add_assoc oa (i * 7) 3) (by omega) rfl rfl rfl HPP.out HPS.out
                        refine (h9.ext (ss := setM m.ss (e.node, e.as_) { s with busy := false, opn := false }) (fun q => ?_)).more (Nat.le_succ _)
                        dsimp only
                        rw [getM_set, getM_set, getM_set, HS1.out]
                        split <;> rfl
                      · have e5 : (s.kind == 5) = false := by simp [h5]
                        have H5 := Lib.hid h5
                        clear h5
                        by_cases h6 : s.kind = 6
                        · have e6 : (s.kind == 6) = true := by simp [h6]
                          have H6 := Lib.hid h6
                          clear h6
                          have aj : Y.cell? ⟨ga, oa + i * 7 + 5, none⟩ = some (.bool x.t.lost) := by rw [Nat.add_assoc]; exact HCX.out _ _ (txc_at HXX.out 5 _ rfl)
                          have fj : Y.frozen? ⟨ga, oa + i * 7 + 5, none⟩ = false := HYM.out.own.frozen rfl _
                          have HSY : Hid (sayT s e x.t = ({ x.t with lost := true }, false)) := Lib.hid (by unfold sayT; rw [if_neg (by rw [← HFB.out]; simp), if_neg (by simp [HC0.out]), if_neg H5.out, if_pos H6.out])
                          go_wp2_with (go_at_call 32; refine HFT.out.mono ?_; rintro e9 w9 ⟨rfl, hw9⟩; rw [hw9]; clear hw9 w9)
                          go_end0
                          refine ⟨rfl, ⟨pp, xs.set i ⟨{ x.t with lost := true }, x.A, x.c⟩, .slice (some ⟨ga, oa, none⟩) nx cap, ?_⟩, ((HYB.out.setCell HGA.out _).setCell HBG.out _)⟩
                          rw [HT.out, HSY.out]
                          have h9 := MkG.shut (y := ⟨{ x.t with lost := true }, x.A, x.c⟩) (u := .bool true) (by have h8 := HYM.out; rw [← HNX.out] at h8; exact h8) HXX.out (Nat.add_assoc oa (i * 7) 5) (by omega) rfl rfl rfl HPP.out HPS.out
                          refine (h9.ext (ss := setM m.ss (e.node, e.as_) { s with busy := false, opn := false }) (fun q => ?_)).more (Nat.le_succ _)
                          dsimp only
                          rw [getM_set, getM_set, getM_set, HS1.out]
                          split <;> rfl
                        · have e6 : (s.kind == 6) = false := by simp [h6]
                          have H6 := Lib.hid h6
                          clear h6
                          by_cases h2 : s.kind = 2
                          · have e2 : (s.kind == 2) = true := by simp [h2]
                            have H2 := Lib.hid h2
                            clear h2
                            obtain ⟨on, hon⟩ : ∃ n, n = x.t.ops.length := ⟨_, rfl⟩
                            have HOL : Hid (on ≤ 1000) := Lib.hid (by rw [hon]; have := HYM.out.leno x (List.mem_of_getElem? HXX.out); have := HNN.out; omega)
                            have a6 : Y.cell? ⟨ga, oa + i * 7 + 6, none⟩ = some (.slice x.A on x.c) := by rw [hon, Nat.add_assoc]; exact HCX.out _ _ (txc_at HXX.out 6 _ rfl)
                            have HOO : Hid (Own Y B 54 4 (.slice x.A on x.c) on (oc x.t.ops)) := Lib.hid (by rw [hon]; exact HYM.out.ops x (List.mem_of_getElem? HXX.out))
                            have HNA : Hid (¬ (Value.slice x.A on x.c).ownBlock = some ga) := Lib.hid (own_two HOO.out HYM.out.own (by decide) rfl)
                            have HF6 : Hid (∀ W : World, W.heap[ga]? = Y.heap[ga]? → W.cell? ⟨ga, oa + i * 7 + 6, none⟩ = some (.slice x.A on x.c) ∧ W.frozen? ⟨ga, oa + i * 7 + 6, none⟩ = false) := Lib.hid (fun W hW => ⟨by unfold World.cell? at a6 ⊢; rw [hW]; exact a6, (HYM.out.own.kept (w' := W) (fun k hk => by rw [← Option.some.inj (show some ga = some k from hk)]; exact hW)).frozen rfl _⟩)
                            have hgal : ga < Y.heap.size := (HYM.out.own.lt ga rfl).2
                            have hgl : g < Y.heap.size := (Array.getElem?_eq_some_iff.1 HYR.out).1
                            have hgcl : gc < Y.heap.size := (Array.getElem?_eq_some_iff.1 HYC.out).1
                            have HYS : Hid (B ≤ Y.heap.size) := Lib.hid (by have := HGA.out; omega)
                            have HON := Lib.hid hon
                            have HSY : Hid (sayT s e x.t = ({ x.t with ops := x.t.ops ++ [⟨2, s.key, e.aval, e.ahas⟩] }, s.opn)) := Lib.hid (by unfold sayT; rw [if_neg (by rw [← HFB.out]; simp), if_neg (by simp [HC0.out]), if_neg H5.out, if_neg H6.out, if_pos H2.out])
                            clear hon
                            go_upto_region 21 with (go_at_call 32; refine HFT.out.mono ?_; rintro e9 w9 ⟨rfl, hw9⟩; rw [hw9]; clear hw9 w9)
                            refine abs_frame fun A N hA hN => ?_
                            refine reg_op2 (by kernel_rfl) HOO HOL HNA HYS hgal hgl hgcl s3 k3 k4 a6 HF6 (by rw [hA]; rfl) (by subst hA; intro h; rfl) (by subst hA; intro h; rfl) (by subst hA; intro h; rfl) ?_
                            intro A' D w6 A6 c6 hdf hdb ho6 hf6 hb6
                            refine hN _ _ ?_
                            have HDB := Lib.hid hdb
                            have HO6 := Lib.hid ho6
                            have HR6 := Lib.hid hf6
                            have HB6 := Lib.hid hb6
                            have hdf2 : A'.defers = [] := hdf.trans (by rw [hA])
                            clear hdb ho6 hf6 hb6 hN hA hdf A N
                            go_wp2_with fail
                            refine bodyPost_end (results_none rfl _ _ _) hdf2 ?_
                            refine ⟨rfl, ⟨pp, xs.set i ⟨{ x.t with ops := x.t.ops ++ [⟨2, s.key, e.aval, e.ahas⟩] }, A6, c6⟩, .slice (some ⟨ga, oa, none⟩) nx cap, ?_⟩, ((HYB.out.trans (HDB.out.mono HYS.out)).trans (HR6.out.below (Nat.le_trans HYS.out HDB.out.size) fun k _ hk => (HOO.out.lt k hk).1)).setCell HGA.out _⟩
                            rw [HT.out, HSY.out]
                            have h9 := MkG.op (w' := w6) (w2 := D) (A' := 0) (by have h8 := HYM.out; rw [← HNX.out] at h8; exact h8) HYS.out HXX.out (Nat.add_assoc oa (i * 7) 6) HDB.out (o := ⟨2, s.key, e.aval, e.ahas⟩) (P' := A6) (c' := c6) (by rw [← HON.out]; exact HO6.out) (by unfold TxP.ov; rw [← HON.out]; exact HR6.out) (by unfold TxP.ov; rw [← HON.out]; exact HB6.out)
                            rw [← HON.out] at h9
                            dsimp only at h9 ⊢
                            rw [show ({ s with busy := false, opn := s.opn } : SesR) = s' from HS1.out.symm]
                            exact h9
                          · have e2 : (s.kind == 2) = false := by simp [h2]
                            have H2 := Lib.hid h2
                            clear h2
                            by_cases h3 : s.kind = 3
                            · have e3 : (s.kind == 3) = true := by simp [h3]
                              have H3 := Lib.hid h3
                              clear h3
                              obtain ⟨on, hon⟩ : ∃ n, n = x.t.ops.length := ⟨_, rfl⟩
                              have HOL : Hid (on ≤ 1000) := Lib.hid (by rw [hon]; have := HYM.out.leno x (List.mem_of_getElem? HXX.out); have := HNN.out; omega)
                              have a6 : Y.cell? ⟨ga, oa + i * 7 + 6, none⟩ = some (.slice x.A on x.c) := by rw [hon, Nat.add_assoc]; exact HCX.out _ _ (txc_at HXX.out 6 _ rfl)
                              have HOO : Hid (Own Y B 54 4 (.slice x.A on x.c) on (oc x.t.ops)) := Lib.hid (by rw [hon]; exact HYM.out.ops x (List.mem_of_getElem? HXX.out))
                              have HNA : Hid (¬ (Value.slice x.A on x.c).ownBlock = some ga) := Lib.hid (own_two HOO.out HYM.out.own (by decide) rfl)
                              have HF6 : Hid (∀ W : World, W.heap[ga]? = Y.heap[ga]? → W.cell? ⟨ga, oa + i * 7 + 6, none⟩ = some (.slice x.A on x.c) ∧ W.frozen? ⟨ga, oa + i * 7 + 6, none⟩ = false) := Lib.hid (fun W hW => ⟨by unfold World.cell? at a6 ⊢; rw [hW]; exact a6, (HYM.out.own.kept (w' := W) (fun k hk => by rw [← Option.some.inj (show some ga = some k from hk)]; exact hW)).frozen rfl _⟩)
                              have hgal : ga < Y.heap.size := (HYM.out.own.lt ga rfl).2
                              have hgl : g < Y.heap.size := (Array.getElem?_eq_some_iff.1 HYR.out).1
                              have hgcl : gc < Y.heap.size := (Array.getElem?_eq_some_iff.1 HYC.out).1
                              have HYS : Hid (B ≤ Y.heap.size) := Lib.hid (by have := HGA.out; omega)
                              have HON := Lib.hid hon
                              have HSY : Hid (sayT s e x.t = ({ x.t with ops := x.t.ops ++ [⟨3, s.key, s.val, false⟩] }, s.opn)) := Lib.hid (by unfold sayT; rw [if_neg (by rw [← HFB.out]; simp), if_neg (by simp [HC0.out]), if_neg H5.out, if_neg H6.out, if_neg H2.out, if_pos H3.out])
                              clear hon
                              go_upto_region 23 with (go_at_call 32; refine HFT.out.mono ?_; rintro e9 w9 ⟨rfl, hw9⟩; rw [hw9]; clear hw9 w9)
                              refine abs_frame fun A N hA hN => ?_
                              refine reg_op3 (by kernel_rfl) HOO HOL HNA HYS hgal hgl s3 s4 a6 HF6 (by rw [hA]; rfl) (by subst hA; intro h; rfl) (by subst hA; intro h; rfl) ?_
                              intro A' D w6 A6 c6 hdf hdb ho6 hf6 hb6
                              refine hN _ _ ?_
                              have HDB := Lib.hid hdb
                              have HO6 := Lib.hid ho6
                              have HR6 := Lib.hid hf6
                              have HB6 := Lib.hid hb6
                              have hdf2 : A'.defers = [] := hdf.trans (by rw [hA])
                              clear hdb ho6 hf6 hb6 hN hA hdf A N
                              go_wp2_with fail
                              refine bodyPost_end (results_none rfl _ _ _) hdf2 ?_
                              refine ⟨rfl, ⟨pp, xs.set i ⟨{ x.t with ops := x.t.ops ++ [⟨3, s.key, s.val, false⟩] }, A6, c6⟩, .slice (some ⟨ga, oa, none⟩) nx cap, ?_⟩, ((HYB.out.trans (HDB.out.mono HYS.out)).trans (HR6.out.below (Nat.le_trans HYS.out HDB.out.size) fun k _ hk => (HOO.out.lt k hk).1)).setCell HGA.out _⟩
                              rw [HT.out, HSY.out]
                              have h9 := MkG.op (w' := w6) (w2 := D) (A' := 0) (by have h8 := HYM.out; rw [← HNX.out] at h8; exact h8) HYS.out HXX.out (Nat.add_assoc oa (i * 7) 6) HDB.out (o := ⟨3, s.key, s.val, false⟩) (P' := A6) (c' := c6) (by rw [← HON.out]; exact HO6.out) (by unfold TxP.ov; rw [← HON.out]; exact HR6.out) (by unfold TxP.ov; rw [← HON.out]; exact HB6.out)
                              rw [← HON.out] at h9
                              dsimp only at h9 ⊢
                              rw [show ({ s with busy := false, opn := s.opn } : SesR) = s' from HS1.out.symm]
                              exact h9
                            · have e3 : (s.kind == 3) = false := by simp [h3]
                              have H3 := Lib.hid h3
                              clear h3
                              by_cases h4 : s.kind = 4
                              · have e4 : (s.kind == 4) = true := by simp [h4]
                                have H4 := Lib.hid h4
                                clear h4
                                obtain ⟨on, hon⟩ : ∃ n, n = x.t.ops.length := ⟨_, rfl⟩
                                have HOL : Hid (on ≤ 1000) := Lib.hid (by rw [hon]; have := HYM.out.leno x (List.mem_of_getElem? HXX.out); have := HNN.out; omega)
                                have a6 : Y.cell? ⟨ga, oa + i * 7 + 6, none⟩ = some (.slice x.A on x.c) := by rw [hon, Nat.add_assoc]; exact HCX.out _ _ (txc_at HXX.out 6 _ rfl)
                                have HOO : Hid (Own Y B 54 4 (.slice x.A on x.c) on (oc x.t.ops)) := Lib.hid (by rw [hon]; exact HYM.out.ops x (List.mem_of_getElem? HXX.out))
                                have HNA : Hid (¬ (Value.slice x.A on x.c).ownBlock = some ga) := Lib.hid (own_two HOO.out HYM.out.own (by decide) rfl)
                                have HF6 : Hid (∀ W : World, W.heap[ga]? = Y.heap[ga]? → W.cell? ⟨ga, oa + i * 7 + 6, none⟩ = some (.slice x.A on x.c) ∧ W.frozen? ⟨ga, oa + i * 7 + 6, none⟩ = false) := Lib.hid (fun W hW => ⟨by unfold World.cell? at a6 ⊢; rw [hW]; exact a6, (HYM.out.own.kept (w' := W) (fun k hk => by rw [← Option.some.inj (show some ga = some k from hk)]; exact hW)).frozen rfl _⟩)
                                have hgal : ga < Y.heap.size := (HYM.out.own.lt ga rfl).2
                                have hgl : g < Y.heap.size := (Array.getElem?_eq_some_iff.1 HYR.out).1
                                have hgcl : gc < Y.heap.size := (Array.getElem?_eq_some_iff.1 HYC.out).1
                                have HYS : Hid (B ≤ Y.heap.size) := Lib.hid (by have := HGA.out; omega)
                                have HON := Lib.hid hon
                                have HSY : Hid (sayT s e x.t = ({ x.t with ops := x.t.ops ++ [⟨4, s.key, ⟨#[]⟩, false⟩] }, s.opn)) := Lib.hid (by unfold sayT; rw [if_neg (by rw [← HFB.out]; simp), if_neg (by simp [HC0.out]), if_neg H5.out, if_neg H6.out, if_neg H2.out, if_neg H3.out, if_pos H4.out])
                                clear hon
                                go_upto_region 25 with (go_at_call 32; refine HFT.out.mono ?_; rintro e9 w9 ⟨rfl, hw9⟩; rw [hw9]; clear hw9 w9)
                                refine abs_frame fun A N hA hN => ?_
                                refine reg_op4 (by kernel_rfl) HOO HOL HNA HYS hgal hgl s3 a6 HF6 (by rw [hA]; rfl) (by subst hA; intro h; rfl) (by subst hA; intro h; rfl) ?_
                                intro A' D w6 A6 c6 hdf hdb ho6 hf6 hb6
                                refine hN _ _ ?_
                                have HDB := Lib.hid hdb
                                have HO6 := Lib.hid ho6
                                have HR6 := Lib.hid hf6
                                have HB6 := Lib.hid hb6
                                have hdf2 : A'.defers = [] := hdf.trans (by rw [hA])
                                clear hdb ho6 hf6 hb6 hN hA hdf A N
                                go_wp2_with fail
                                refine bodyPost_end (results_none rfl _ _ _) hdf2 ?_
                                refine ⟨rfl, ⟨pp, xs.set i ⟨{ x.t with ops := x.t.ops ++ [⟨4, s.key, ⟨#[]⟩, false⟩] }, A6, c6⟩, .slice (some ⟨ga, oa, none⟩) nx cap, ?_⟩, ((HYB.out.trans (HDB.out.mono HYS.out)).trans (HR6.out.below (Nat.le_trans HYS.out HDB.out.size) fun k _ hk => (HOO.out.lt k hk).1)).setCell HGA.out _⟩
                                rw [HT.out, HSY.out]
                                have h9 := MkG.op (w' := w6) (w2 := D) (A' := 0) (by have h8 := HYM.out; rw [← HNX.out] at h8; exact h8) HYS.out HXX.out (Nat.add_assoc oa (i * 7) 6) HDB.out (o := ⟨4, s.key, ⟨#[]⟩, false⟩) (P' := A6) (c' := c6) (by rw [← HON.out]; exact HO6.out) (by unfold TxP.ov; rw [← HON.out]; exact HR6.out) (by unfold TxP.ov; rw [← HON.out]; exact HB6.out)
                                rw [← HON.out] at h9
                                dsimp only at h9 ⊢
                                rw [show ({ s with busy := false, opn := s.opn } : SesR) = s' from HS1.out.symm]
                                exact h9
                              · have e4 : (s.kind == 4) = false := by simp [h4]
                                have H4 := Lib.hid h4
                                clear h4
                                have HSY : Hid (sayT s e x.t = (x.t, s.opn)) := Lib.hid (by unfold sayT; rw [if_neg (by rw [← HFB.out]; simp), if_neg (by simp [HC0.out]), if_neg H5.out, if_neg H6.out, if_neg H2.out, if_neg H3.out, if_neg H4.out])
                                go_wp2_with (go_at_call 32; refine HFT.out.mono ?_; rintro e9 w9 ⟨rfl, hw9⟩; rw [hw9]; clear hw9 w9)
                                go_end0
                                refine ⟨rfl, ⟨pp, xs, .slice (some ⟨ga, oa, none⟩) xs.length cap, ?_⟩, HYB.out⟩
                                rw [HT.out, HSY.out]
                                have hset : m.all.set i x.t = m.all := by
                                  apply List.ext_getElem?
                                  intro k
                                  rw [List.getElem?_set]
                                  split
                                  · rename_i e1
                                    subst e1
                                    rw [if_pos (List.getElem?_eq_some_iff.1 HM9.out).1]
                                    exact HM9.out.symm
                                  · rfl
                                dsimp only
                                rw [hset, show ({ s with busy := false, opn := s.opn } : SesR) = s' from HS1.out.symm]
                                exact HYM.out.more (Nat.le_succ _)
                    · have e0 : (e.ac != 0) = true := by simp [hc0]
                      have HSY : Hid (sayT s e x.t = (x.t, s.opn)) := Lib.hid (by
                        unfold sayT
                        rw [if_neg (by rw [← HFB.out]; simp), if_pos hc0])
                      clear hc0
                      go_wp2_with (go_at_call 32; refine HFT.out.mono ?_; rintro e9 w9 ⟨rfl, hw9⟩; rw [hw9]; clear hw9 w9)
                      go_end0
                      refine ⟨rfl, ⟨pp, xs, .slice (some ⟨ga, oa, none⟩) xs.length cap, ?_⟩, HYB.out⟩
                      · rw [HT.out, HSY.out]
                        have hset : m.all.set i x.t = m.all := by
                          apply List.ext_getElem?
                          intro k
                          rw [List.getElem?_set]
                          split
                          · rename_i e1
                            subst e1
                            rw [if_pos (List.getElem?_eq_some_iff.1 HM9.out).1]
                            exact HM9.out.symm
                          · rfl
                        dsimp only
                        rw [hset, show ({ s with busy := false, opn := s.opn } : SesR) = s' from HS1.out.symm]
                        exact HYM.out.more (Nat.le_succ _)
      · have HE : Hid (saidM m e = m) := Lib.hid (by unfold saidM; rw [HSS.out]; dsimp only; rw [if_pos (.inr hq)])
        have hq2 : (e.ar != s.req) = true := by simp [hq]
        clear hq
        go_upto_region 2 with fail
        go_quiet (fail)
        go_wp2_with fail
        refine bodyPost_ret (results_none rfl _ _ _) rfl ?_
        exact ⟨rfl, ⟨pp, xs, av, by rw [HE.out]; exact (HV.out.drewN_ _).more (Nat.le_succ _)⟩, below_drewN HVB.out _⟩
end Go.Proofs.Ythkacajlbenflaa.HistG

