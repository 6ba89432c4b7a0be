/- The maker's up: all sessions of a node are struck. -/
import Derived.Test.YthkacajlbenflaaHistN
set_option linter.unusedVariables false
set_option linter.unusedSimpArgs false
set_option linter.unusedSectionVars false
set_option maxRecDepth 100000
namespace Go.Proofs.Ythkacajlbenflaa.HistG
open Go.RowKit Go.WideShapes Go.Deep Go.Proofs.Ythkacajlbenflaa.Mem Go.Proofs.Ythkacajlbenflaa.Maps Go.Proofs.Ythkacajlbenflaa.Kv Go.Proofs.Ythkacajlbenflaa.Open Go.Proofs.Ythkacajlbenflaa.HistA
/-- Behind some rounds: what of this node has come is struck. -/
structure UpI (w0 w : World) (B gm ba bs N r : Nat) (m : MkR) (xs : List TxP) (av : Value) (node : Int) (cnt : Nat) : Prop where
  ex : ∃ ss pp left, RngAt enP enB PlOk w bs r pp left cnt ∧ MkG w B gm ba bs N { m with ss := ss } pp xs av ∧ (∀ p, getM ss p = if p.1 = node ∧ left p = false then none else getM m.ss p)
  go : Below B w0 w
theorem up_del {node a b : Int} {left : Int × Int → Bool} {ss s0 : List ((Int × Int) × SesR)} (h : ∀ p, getM ss p = if p.1 = node ∧ left p = false then none else getM s0 p) (ha : a = node) (q : Int × Int) : getM (delM ss (a, b)) q = if q.1 = node ∧ (left q && !decide (q = (a, b))) = false then none else getM s0 q := by
  rw [getM_del]
  by_cases e : (a, b) = q
  · subst e
    rw [if_pos rfl, if_pos ⟨ha, by simp⟩]
  · rw [if_neg e, h q]
    have e2 : decide (q = (a, b)) = false := decide_eq_false fun e3 => e e3.symm
    rw [e2]
    simp
theorem up_not {node a b : Int} {left : Int × Int → Bool} {ss s0 : List ((Int × Int) × SesR)} (h : ∀ p, getM ss p = if p.1 = node ∧ left p = false then none else getM s0 p) (ha : ¬ a = node) (q : Int × Int) : getM ss q = if q.1 = node ∧ (left q && !decide (q = (a, b))) = false then none else getM s0 q := by
  rw [h q]
  by_cases e : q = (a, b)
  · subst e
    rw [if_neg (fun h => ha h.1), if_neg (fun h => ha h.1)]
  · have e2 : decide (q = (a, b)) = false := decide_eq_false e
    rw [e2]
    simp
theorem MkG.drew_ {w : World} {B gm ba bs N : Nat} {m : MkR} {pp : List ((Int × Int) × Nat)} {xs : List TxP} {av : Value} (h : MkG w B gm ba bs N m pp xs av) : MkG w.drew B gm ba bs N m pp xs av := h.kept fun g _ => rfl
set_option maxHeartbeats 2000000 in
theorem up_g {w : World} {B gm ba bs N : Nat} {m : MkR} {pp : List ((Int × Int) × Nat)} {xs : List TxP} {av : Value} (h : MkG w B gm ba bs N m pp xs av) (hB : B ≤ w.heap.size) (e : EvV) :
    Calls Try.prog 21 #[.pointer (some ⟨gm, 0, none⟩), .int .i64 e.node] w fun x w' => x = .returned (.tuple #[]) ∧ (∃ pp', MkG w' B gm ba bs N (upM m e) pp' xs av) ∧ Below B w w' := by
  obtain ⟨w1, hrun, hrg, hb1⟩ := run_range (P := Try.prog) Try.underlying65 h.sm
  have hmk := h.mkr
  obtain ⟨c0, c1, c2, _⟩ := row3_facts hmk
  have H1 : Hid (UpI w w1 B gm ba bs N w.heap.size m xs av e.node pp.length) := Lib.hid ⟨⟨m.ss, pp, fun _ => true, hrg, h.below hb1, fun p => by simp⟩, hb1.mono hB⟩
  obtain ⟨r, hr⟩ : ∃ r, r = w.heap.size := ⟨_, rfl⟩
  rw [← hr] at hrun H1
  have hBr : B ≤ r := by omega
  obtain ⟨node, hnode⟩ : ∃ n, n = e.node := ⟨_, rfl⟩
  rw [← hnode] at H1 ⊢
  have HNODE := Lib.hid hnode
  have hbg := h.bm
  clear hrg hb1 hmk c0 c1 hr hnode h
  go_enter Try.func21, Try.ntmps21
  go_upto_region 1 with fail
  clear hrun c2
  go_loopw [4] (fun v4 w2 => ∃ cnt, UpI w w2 B gm ba bs N r m xs av node cnt) (fun _ w2 => w2.rangeLeft bs r)
  case atStart => exact ⟨_, H1.out⟩
  case round =>
    clear H1 w1
    obtain ⟨cnt, ⟨⟨ss, pp2, left, hrg, hmg, hss⟩, hgo⟩⟩ := hrel
    have hleft := hrg.left_eq
    have HRG := Lib.hid hrg
    have HMG := Lib.hid hmg
    have HSS := Lib.hid hss
    have HGO := Lib.hid hgo
    have HLE := Lib.hid hleft
    clear hmg hss hgo hleft
    rcases hrg.next km_pl 0 with ⟨h0, hall, hn⟩ | ⟨⟨⟨pa, pb⟩, pk⟩, w2, cnt2, hp, hlf, hn, hrg2, hlt, hfr, hsz, hen⟩
    · have HALL := Lib.hid hall
      clear hall hrg h0
      go_wp2_with fail
      go_end0
      refine ⟨rfl, ⟨pp2, HMG.out.ext fun p => ?_⟩, HGO.out⟩
      rw [getM_filter (fun q : Int × Int => !decide (q.1 = e.node)), HSS.out p, ← HNODE.out]
      by_cases hp : p.1 = node
      · rw [if_neg (by simp [hp])]
        by_cases hl : left p = false
        · rw [if_pos ⟨hp, hl⟩]
        · have hn2 : getM pp2 p = none := by
            cases hg : getM pp2 p with
            | none => rfl
            | some g => exact absurd (HALL.out _ (getM_mem hg)) hl
          have h9 := HMG.out.none_ p hn2
          dsimp only at h9
          rw [HSS.out p] at h9
          exact h9.symm
      · rw [if_pos (by simp [hp]), if_neg (fun h => hp h.1)]
    · dsimp only [enP, enB] at hn hen hrg2 hlf
      have HRG2 := Lib.hid hrg2
      have HLT := Lib.hid hlt
      have HFR := Lib.hid hfr
      have HLF := Lib.hid hlf
      have HP := Lib.hid hp
      have hrb := hrg.ne
      have HMG2 : Hid (MkG w2 B gm ba bs N { m with ss := ss } pp2 xs av) := Lib.hid (HMG.out.kept fun g hg => by
        obtain ⟨_, _, _, _, hi⟩ := HRG.out.iter
        exact hfr.block g (HMG.out.lt g hg) (HMG.out.iter hi g hg))
      have HSZ := Lib.hid hsz
      have hZB : Below B wr w2 := hfr.below (Nat.le_trans hB HGO.out.size) (fun i _ e => by rw [e]; exact hBr)
      have HW2 : Hid (Below B w w2) := Lib.hid (HGO.out.trans hZB)
      clear hrg hlt hfr hlf hp hrg2 hsz hZB
      obtain ⟨Z, hZ⟩ : ∃ Z, Z = w2.alloc (.cells #[.int .i64 pa, .int .i64 pb] 71) := ⟨_, rfl⟩
      obtain ⟨gz, hgz⟩ : ∃ g, g = w2.heap.size := ⟨_, rfl⟩
      have HZB : Hid (Below w2.heap.size w2 Z) := Lib.hid (by rw [hZ]; exact (Below.refl _ _).alloc (Nat.le_refl _) _)
      have HZR : Hid (Z.heap[gz]? = some (.cells #[.int .i64 pa, .int .i64 pb] 71 (0, 0))) := Lib.hid (by rw [hZ, hgz]; exact heap_alloc_new w2 _)
      have HBW2 : Hid (B ≤ w2.heap.size) := Lib.hid (Nat.le_trans hB HW2.out.size)
      have HZ : Hid (Below B w Z) := Lib.hid (HW2.out.trans (HZB.out.mono HBW2.out))
      have HMZ := Lib.hid (HMG2.out.below HZB.out)
      have HRZ := Lib.hid (HRG2.out.below HZB.out)
      obtain ⟨ss2, hss2⟩ : ∃ s : List ((Int × Int) × SesR), s = ss := ⟨_, rfl⟩
      by_cases hpn : pa = node
      · have hpe : (pa == node) = true := by simp [hpn]
        have HPN := Lib.hid hpn
        obtain ⟨w3, cnt3, hdel, hrg3, hle3, ht3⟩ := (HRZ.out.kept (w' := Z.drew) rfl rfl).delete (P := Try.prog) km_pl Try.underlying65 (x := (pa, pb)) (HRG2.out.okk _ HP.out) 0
        have HRG3 := Lib.hid hrg3
        have HT3 := Lib.hid ht3
        have HLE3 := Lib.hid hle3
        obtain ⟨c0, c1, c2, _⟩ := row3_facts HMZ.out.mkr
        obtain ⟨z0, z1⟩ := row2c HZR.out
        have HSA : Hid (Z.drew.cell? ⟨gm, 2, none⟩ = some (.map (some bs)) ∧ Z.drew.cell? ⟨gz, 0, none⟩ = some (.int .i64 pa) ∧ Z.drew.cell? ⟨gz, 1, none⟩ = some (.int .i64 pb)) := Lib.hid ⟨c2, z0, z1⟩
        have HSB : Hid (w3.cell? ⟨gm, 2, none⟩ = some (.map (some bs)) ∧ w3.cell? ⟨gz, 0, none⟩ = some (.int .i64 pa) ∧ w3.cell? ⟨gz, 1, none⟩ = some (.int .i64 pb)) := Lib.hid ⟨(ht3.cell _).trans c2, (ht3.cell _).trans z0, (ht3.cell _).trans z1⟩
        dsimp only [enP] at hdel
        clear hpn hrg3 ht3 hle3 c0 c1 c2 z0 z1
        go_upto_region 4 with fail
        rw [← hZ, ← hgz]
        clear hZ hgz hn hen
        go_region_held3 (fun V => V.cell? ⟨gm, 2, none⟩ = some (.map (some bs)) ∧ V.cell? ⟨gz, 0, none⟩ = some (.int .i64 pa) ∧ V.cell? ⟨gz, 1, none⟩ = some (.int .i64 pb))
          ((first | exact HSA.out | exact HSB.out)) (fail)
        rename_i hheld
        clear hheld hdel
        go_wp2_with fail
        go_roundw
        case rel => exact ⟨cnt3, ⟨⟨delM ss (pa, pb), delM pp2 (pa, pb), _, HRG3.out, (HMZ.out.drew_).strike HRG3.out.map HT3.out, fun q => up_del (HSS.out) HPN.out q⟩, bl_turned HT3.out (HZ.out.drew) HMG2.out.bss⟩⟩
        case measure => rw [HRG3.out.left_eq, HLE.out]; have := HLT.out; have := HLE3.out; omega
      · have hpe : (pa == node) = false := by simp [hpn]
        have HPN := Lib.hid hpn
        clear hpn
        go_wp2_with fail
        rw [← hZ]
        go_roundw
        case rel => exact ⟨cnt2, ⟨⟨ss, pp2, _, HRZ.out, HMZ.out, fun q => up_not (HSS.out) HPN.out q⟩, HZ.out⟩⟩
        case measure => rw [HRZ.out.left_eq, HLE.out]; exact HLT.out
#print axioms up_g
end Go.Proofs.Ythkacajlbenflaa.HistG
